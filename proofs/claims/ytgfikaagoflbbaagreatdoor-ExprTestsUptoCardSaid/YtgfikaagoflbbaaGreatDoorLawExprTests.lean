/-
  The walk of the law ExprTests: whatever the expression and the kind: true.
-/
import Derived.Test.YtgfikaagoflbbaaGreatDoorETP
import Derived.Test.YtgfikaagoflbbaaGreatDoorEHW
namespace Go.Proofs.YtgfikaagoflbbaaGreatDoor
open Go.RowKit

set_option maxRecDepth 100000 in
set_option maxHeartbeats 8000000 in
theorem exprTests_walk {w : World} (e : Ex) (en el : Value) (he : ExAt w e en el) (hbe : e.bulk ≤ 1048576) (q : Int) (hq : (Lit.int .u8 q).wf = true) (hE : EnvX w) :
    Calls Tryz.prog 7 #[exV e en el, .int .u8 q] w (RetBel (.bool true) w) := by
  have HX := Lib.hid he
  have HE := Lib.hid hE
  obtain ⟨na, la, nn, nc, m, lc, rfl, rfl, _, _, _, _, _, _, _, _⟩ := he.opened
  unfold exV
  have HCK := Lib.hid (fun (x : Ex) xn xl W (hW : Bel w W) (hx : x.bulk ≤ 1073741824) (h : ExAt W x xn xl) => check_x x xn xl W (HE.out.bel hW) hx h)
  have HDP := Lib.hid (fun W (hW : Bel w W) => depth_c e.bulk e (Nat.le_refl _) (by omega) _ _ W (ExAt.bel hW e he))
  obtain ⟨c, hc⟩ : ∃ c, CheckE e = c := ⟨_, rfl⟩
  have hck := fun W (hW : Bel w W) => HCK.out e _ _ W hW (by omega) (ExAt.bel hW e he)
  rw [hc] at hck
  have HCX := Lib.hid hck
  have HC := Lib.hid hc
  have hq0 : 0 ≤ q ∧ q ≤ 255 := by have h1 : (decide ((0 : Int) ≤ q) && decide (q ≤ 255)) = true := hq; simp at h1; omega
  obtain ⟨b19, hb19⟩ : ∃ b, (e.k == 19) = b := ⟨_, rfl⟩
  clear he hE hc hck hq
  go_enter Tryz.func7, Tryz.ntmps7
  go_wp2_with fail
  obtain ⟨V1, h1, k1, l1, s1⟩ := alloc_step w 25 [.int .i64 e.k, .string e.s, .slice na nn nc, .slice la m lc]
  rw [h1]
  have BX := Lib.hid k1
  have HV := Lib.hid l1
  clear h1 k1 l1 s1
  refine (ealive_c _ (HE.out.bel HV.out)).mono ?_
  rintro e1 w1 ⟨rfl, hb1⟩
  have c0 := hb1.keep (BX.out.at 0)
  have c1 := hb1.keep (BX.out.at 1)
  have c2 := hb1.keep (BX.out.at 2)
  have c3 := hb1.keep (BX.out.at 3)
  have HB1 := Lib.hid (HV.out.trans hb1)
  clear hb1
  go_wp2_with fail
  obtain ⟨V3, h3, k3, l3, s3⟩ := alloc_step w1 25 [.int .i64 e.k, .string e.s, .slice na nn nc, .slice la m lc]
  rw [h3]
  have hb3 := HB1.out.trans l3
  have HG := Lib.hid (egreat_c [e] (some ⟨w1.heap.size, 0, none⟩) 1 1 V3 rfl (by omega) (parts_of_exs (exs_one k3 rfl (ExAt.bel hb3 e HX.out))) (by intro x hx; simp at hx; subst hx; omega))
  have e0 := l3.keep c0
  have e1 := l3.keep c1
  have e2 := l3.keep c2
  have e3 := l3.keep c3
  have HB3 := Lib.hid hb3
  clear h3 k3 l3 s3 hb3 c0 c1 c2 c3
  refine HG.out.mono ?_
  rintro e4 w4 ⟨rfl, hb4⟩
  have c0 := hb4.keep e0
  have c1 := hb4.keep e1
  have c2 := hb4.keep e2
  have c3 := hb4.keep e3
  have HB4 := Lib.hid (HB3.out.trans hb4)
  obtain ⟨g, hg⟩ : ∃ g, [e].any greatE = g := ⟨_, rfl⟩
  rw [hg]
  rw [List.any_cons, List.any_nil, Bool.or_false] at hg
  have HGR := Lib.hid hg
  clear e0 e1 e2 e3 hb4 hg HG
  cases g with
  | true =>
    have h1 : oneIf true = 1 := rfl
    rw [h1]
    go_wp2_with fail
    refine (ealive_c _ (HE.out.bel HB4.out)).mono ?_
    rintro e5 w5 ⟨rfl, hb5⟩
    go_wp2_with fail
    go_ret
    exact ⟨rfl, HB4.out.trans hb5⟩
  | false =>
  have h1 : oneIf false = 0 := rfl
  rw [h1]
  have HGF := Lib.hid (greatE_false HGR.out)
  clear h1 HGR
  go_wp2_with fail
  refine (HCX.out _ HB4.out).mono ?_
  rintro e5 w5 ⟨rfl, hb5⟩
  have HB5 := Lib.hid (HB4.out.trans hb5)
  have d0 := hb5.keep c0
  have d1 := hb5.keep c1
  have d2 := hb5.keep c2
  have d3 := hb5.keep c3
  clear hb5 c0 c1 c2 c3
  by_cases hc0 : ¬ c = 0
  · have hc2 : ((c : Int) == 0) = false := by simpa using hc0
    have hc3 : ((c : Int) != 0) = true := by simpa using hc0
    clear hc0
    go_wp2_with fail
    refine (ealive_c _ (HE.out.bel HB5.out)).mono ?_
    rintro e9 w9 ⟨rfl, hb9⟩
    go_wp2_with fail
    go_ret
    exact ⟨rfl, HB5.out.trans hb9⟩
  obtain rfl : c = 0 := by omega
  clear hc0
  cases b19 with
  | true =>
    go_wp2_with fail
    refine (ealive_c _ (HE.out.bel HB5.out)).mono ?_
    rintro e9 w9 ⟨rfl, hb9⟩
    go_wp2_with fail
    go_ret
    exact ⟨rfl, HB5.out.trans hb9⟩
  | false =>
  go_wp2_with fail
  refine (HDP.out _ HB5.out).mono ?_
  rintro e6 w6 ⟨rfl, hb6⟩
  have HB6 := Lib.hid (HB5.out.trans hb6)
  have c0 := hb6.keep d0
  have c1 := hb6.keep d1
  have c2 := hb6.keep d2
  have c3 := hb6.keep d3
  clear hb6 d0 d1 d2 d3
  by_cases hd : 100 < dE e
  · have hdi : (100 : Int) < dE e := by omega
    clear hd
    go_wp2_with fail
    refine (ealive_c _ (HE.out.bel HB6.out)).mono ?_
    rintro e9 w9 ⟨rfl, hb9⟩
    go_wp2_with fail
    go_ret
    exact ⟨rfl, HB6.out.trans hb9⟩
  have hdi : ¬ (100 : Int) < dE e := by omega
  have hk : e.k ≠ 19 := by simpa using hb19
  have hc1 : checkE e true = 0 := by have := HC.out; rwa [check_top (by omega)] at this
  have HD := Lib.hid (show dE e ≤ 100 by omega)
  have HK := Lib.hid hk
  have HC1 := Lib.hid hc1
  clear hd hk hc1
  go_upto_region 3 with fail
  go_cut [5] (fun v wx => ∃ pb tb s, v = .pointer (some ⟨pb, 0, none⟩) ∧ s ∈ testS ∧ Blk wx pb 25 [.int .i64 19, .string s, .slice none 0 0, .slice (some ⟨tb, 0, none⟩) 1 1] ∧ Blk wx tb 25 [.int .i64 e.k, .string e.s, .slice na nn nc, .slice la m lc] ∧ Bel w6 wx)
  case first =>
    obtain ⟨r, hr, hr4⟩ : ∃ r : Nat, q.tmod 4 = r ∧ r < 4 := ⟨(q.tmod 4).toNat, by rw [Int.tmod_eq_emod_of_nonneg hq0.1]; omega, by rw [Int.tmod_eq_emod_of_nonneg hq0.1]; omega⟩
    have hri : (r : Int) < 4 := by omega
    obtain ⟨s, hs, hsm⟩ : ∃ s, ([.string ⟨#[60]⟩, .string ⟨#[60, 61]⟩, .string ⟨#[62]⟩, .string ⟨#[62, 61]⟩] : List Value)[r]? = some (.string s) ∧ s ∈ testS := by
      match r, hr4 with
      | 0, _ => exact ⟨_, rfl, by decide⟩
      | 1, _ => exact ⟨_, rfl, by decide⟩
      | 2, _ => exact ⟨_, rfl, by decide⟩
      | 3, _ => exact ⟨_, rfl, by decide⟩
    have hstr : ∀ (b : Nat) (W : World), Blk W b 9 [.string ⟨#[60]⟩, .string ⟨#[60, 61]⟩, .string ⟨#[62]⟩, .string ⟨#[62, 61]⟩] → W.cell? ⟨b, r, none⟩ = some (.string s) := fun b W hb => by rw [hb.at, hs]
    refine wp_region_held_drew (S := fun w' => w'.cell? ⟨w.heap.size, 0, none⟩ = some (.int .i64 e.k) ∧ w'.cell? ⟨w.heap.size, 1, none⟩ = some (.string e.s) ∧ w'.cell? ⟨w.heap.size, 2, none⟩ = some (.slice na nn nc) ∧ w'.cell? ⟨w.heap.size, 3, none⟩ = some (.slice la m lc) ∧ Bel w6 w') (by kernel_rfl) ⟨by go_simp, by go_simp, by go_simp, by go_simp, by (repeat (first | exact Bel.refl _ | assumption | refine Bel.to_drewN ?_ _ | refine Bel.to_drew ?_ | refine Bel.to_setCell ?_ (by first | exact Nat.le_refl _ | (simp; done) | (simp; omega) | omega) _ | refine Bel.to_alloc ?_ _ | refine Bel.trans ?_ (by assumption)))⟩ (fun hHeld => ?_)
    have HC0 := Lib.hid c0
    have HC1' := Lib.hid c1
    have HC2 := Lib.hid c2
    have HC3 := Lib.hid c3
    clear c0 c1 c2 c3
    obtain ⟨V0, hV0⟩ : ∃ W, w6.drew = W := ⟨_, rfl⟩
    have hb0 : Bel w6 V0 := by rw [← hV0]; exact Bel.drew _
    rw [hV0] at hHeld ⊢
    clear hV0
    refine wpAnyH_take (i := 1) (oi := _) (v := ?_) rfl (by kernel_rfl) (by kernel_rfl) (by kernel_rfl) (fun _ _ _ h => h) ?_ (by assumption) ?_
    rotate_left 1
    · first
        | (refine Or.inl ⟨by rfl, ?_⟩; intro w9 hSw; (try dsimp only at hSw); go_simp; (try with_reducible rfl); done)
        | (refine Or.inr ⟨by rfl, ?_⟩; rfl)
    simp only [List.getElem_toArray, List.getElem_cons_succ, List.getElem_cons_zero, Act.put, List.setIfInBounds_toArray, List.set_cons_zero, List.set_cons_succ]
    refine wpAnyH_take (i := 2) (oi := _) (v := ?_) rfl (by kernel_rfl) (by kernel_rfl) (by kernel_rfl) (fun _ _ _ h => h) ?_ (by assumption) ?_
    rotate_left 1
    · first
        | (refine Or.inl ⟨by rfl, ?_⟩; intro w9 hSw; (try dsimp only at hSw); go_simp; (try with_reducible rfl); done)
        | (refine Or.inr ⟨by rfl, ?_⟩; rfl)
    simp only [List.getElem_toArray, List.getElem_cons_succ, List.getElem_cons_zero, Act.put, List.setIfInBounds_toArray, List.set_cons_zero, List.set_cons_succ]
    refine wpAnyH_take (i := 5) (oi := _) (v := ?_) rfl (by kernel_rfl) (by kernel_rfl) (by kernel_rfl) (fun _ _ _ h => h) ?_ (by assumption) ?_
    rotate_left 1
    · first
        | (refine Or.inl ⟨by rfl, ?_⟩; intro w9 hSw; (try dsimp only at hSw); go_simp; (try with_reducible rfl); done)
        | (refine Or.inr ⟨by rfl, ?_⟩; rfl)
    simp only [List.getElem_toArray, List.getElem_cons_succ, List.getElem_cons_zero, Act.put, List.setIfInBounds_toArray, List.set_cons_zero, List.set_cons_succ]
    refine wpAnyH_ready (rs := [0, 6, 8]) (by kernel_rfl) (by simp) ?_
    refine AllReadyH.cons (o := _) rfl (fun K hK => ?_) (AllReadyH.cons (o := _) rfl (fun K hK => ?_) (AllReadyH.cons (o := _) rfl (fun K hK => ?_) AllReadyH.nil))
    · go_simp
      obtain ⟨V1, h0, k0, l0, s0⟩ := alloc_step V0 9 [.string ⟨#[60]⟩, .string ⟨#[60, 61]⟩, .string ⟨#[62]⟩, .string ⟨#[62, 61]⟩]
      rw [h0]
      have HS0 := Lib.hid s0
      clear s0
      refine hK.out _ _ ⟨l0.keep hHeld.1, l0.keep hHeld.2.1, l0.keep hHeld.2.2.1, l0.keep hHeld.2.2.2.1, (hb0).trans l0⟩ (fun hHeld => ?_)
      clear hK K
      have hst := (hstr V0.heap.size V1 k0)
      refine wpAnyH_weaken (S' := fun w' => w'.cell? ⟨w.heap.size, 0, none⟩ = some (.int .i64 e.k) ∧ w'.cell? ⟨w.heap.size, 1, none⟩ = some (.string e.s) ∧ w'.cell? ⟨w.heap.size, 2, none⟩ = some (.slice na nn nc) ∧ w'.cell? ⟨w.heap.size, 3, none⟩ = some (.slice la m lc) ∧ w'.cell? ⟨V0.heap.size, r, none⟩ = some (.string s) ∧ Bel w6 w') (fun _ h => ⟨h.1, h.2.1, h.2.2.1, h.2.2.2.1, h.2.2.2.2.2⟩) _ _ _ _ ?_
      replace hHeld := And.intro hHeld.1 (And.intro hHeld.2.1 (And.intro hHeld.2.2.1 (And.intro hHeld.2.2.2.1 (And.intro hst hHeld.2.2.2.2))))
      refine wpAnyH_take (i := 3) (oi := _) (v := ?_) rfl (by kernel_rfl) (by kernel_rfl) (by kernel_rfl) (fun _ _ _ h => h) ?_ (by assumption) ?_
      rotate_left 1
      · first
          | (refine Or.inl ⟨by rfl, ?_⟩; intro w9 hSw; (try dsimp only at hSw); go_simp; (try with_reducible rfl); done)
          | (refine Or.inr ⟨by rfl, ?_⟩; rfl)
      simp only [List.getElem_toArray, List.getElem_cons_succ, List.getElem_cons_zero, Act.put, List.setIfInBounds_toArray, List.set_cons_zero, List.set_cons_succ]
      refine wpAnyH_take (i := 4) (oi := _) (v := ?_) rfl (by kernel_rfl) (by kernel_rfl) (by kernel_rfl) (fun _ _ _ h => h) ?_ (by assumption) ?_
      rotate_left 1
      · first
          | (refine Or.inl ⟨by rfl, ?_⟩; intro w9 hSw; (try dsimp only at hSw); go_simp; (try with_reducible rfl); done)
          | (refine Or.inr ⟨by rfl, ?_⟩; rfl)
      simp only [List.getElem_toArray, List.getElem_cons_succ, List.getElem_cons_zero, Act.put, List.setIfInBounds_toArray, List.set_cons_zero, List.set_cons_succ]
      refine wpAnyH_ready (rs := [6, 8]) (by kernel_rfl) (by simp) ?_
      refine AllReadyH.cons (o := _) rfl (fun K hK => ?_) (AllReadyH.cons (o := _) rfl (fun K hK => ?_) AllReadyH.nil)
      · go_simp
        obtain ⟨V2, h6, k6, l6, s6⟩ := alloc_step V1 25 [.int .i64 e.k, .string e.s, .slice na nn nc, .slice la m lc]
        rw [h6]
        have HS6 := Lib.hid s6
        clear s6
        refine hK.out _ _ ⟨l6.keep hHeld.1, l6.keep hHeld.2.1, l6.keep hHeld.2.2.1, l6.keep hHeld.2.2.2.1, l6.keep hHeld.2.2.2.2.1, ((hb0).trans l0).trans l6⟩ (fun hHeld => ?_)
        clear hK K
        refine wpAnyH_take (i := 7) (oi := _) (v := ?_) rfl (by kernel_rfl) (by kernel_rfl) (by kernel_rfl) (fun _ _ _ h => h) ?_ (by assumption) ?_
        rotate_left 1
        · first
            | (refine Or.inl ⟨by rfl, ?_⟩; intro w9 hSw; (try dsimp only at hSw); go_simp; (try with_reducible rfl); done)
            | (refine Or.inr ⟨by rfl, ?_⟩; rfl)
        simp only [List.getElem_toArray, List.getElem_cons_succ, List.getElem_cons_zero, Act.put, List.setIfInBounds_toArray, List.set_cons_zero, List.set_cons_succ]
        refine wpAnyH_ready (rs := [8]) (by kernel_rfl) (by simp) ?_
        refine AllReadyH.cons (o := _) rfl (fun K hK => ?_) AllReadyH.nil
        go_simp
        obtain ⟨V3, h8, k8, l8, s8⟩ := alloc_step V2 25 [.int .i64 0, .string ⟨#[]⟩, .slice none 0 0, .slice none 0 0]
        rw [h8]
        have HS8 := Lib.hid s8
        clear s8
        refine hK.out _ _ ⟨l8.keep hHeld.1, l8.keep hHeld.2.1, l8.keep hHeld.2.2.1, l8.keep hHeld.2.2.2.1, l8.keep hHeld.2.2.2.2.1, (((hb0).trans l0).trans l6).trans l8⟩ (fun hHeld => ?_)
        clear hK K
        have hkc := k8
        have z0 := hkc.at 0
        have f0 := hkc.fz 0
        have z1 := hkc.at 1
        have f1 := hkc.fz 1
        have z2 := hkc.at 2
        have f2 := hkc.fz 2
        have z3 := hkc.at 3
        have f3 := hkc.fz 3
        refine wpAnyH_ready (rs := [9]) (by kernel_rfl) (by simp) ?_
        refine AllReadyH.cons (o := _) rfl (fun K hK => ?_) AllReadyH.nil
        go_simp
        obtain ⟨st1, st2, st3⟩ := store_ex (.int .i64 19) (.string s) (.slice none 0 0) (.slice (some ⟨V1.heap.size, 0, none⟩) 1 1) hkc rfl ((((hb0).trans l0).trans l6).trans l8) (((hb0).trans l0).trans l6).size
        refine hK.out _ _ ⟨st2.keep HC0.out, st2.keep HC1'.out, st2.keep HC2.out, st2.keep HC3.out, hstr _ _ (st3 _ _ _ (by have := HS0.out; have := HS6.out; have := HS8.out; omega) (((k0).bel l6).bel l8)), st2⟩ (fun hHeld => ?_)
        clear hK K
        refine wpAnyH_done (by kernel_rfl) ?_ _
        have HFIN := Lib.hid (And.intro st1 (And.intro (st3 _ _ _ (by have := HS0.out; have := HS6.out; have := HS8.out; omega) ((k6).bel l8)) st2))
        clear st1 st2 st3 hHeld
        go_wp2_with fail
        go_meet
        exact ⟨_, _, s, rfl, hsm, HFIN.out.1, HFIN.out.2.1, HFIN.out.2.2⟩
      · go_simp
        obtain ⟨V2, h8, k8, l8, s8⟩ := alloc_step V1 25 [.int .i64 0, .string ⟨#[]⟩, .slice none 0 0, .slice none 0 0]
        rw [h8]
        have HS8 := Lib.hid s8
        clear s8
        refine hK.out _ _ ⟨l8.keep hHeld.1, l8.keep hHeld.2.1, l8.keep hHeld.2.2.1, l8.keep hHeld.2.2.2.1, l8.keep hHeld.2.2.2.2.1, ((hb0).trans l0).trans l8⟩ (fun hHeld => ?_)
        clear hK K
        refine wpAnyH_ready (rs := [6]) (by kernel_rfl) (by simp) ?_
        refine AllReadyH.cons (o := _) rfl (fun K hK => ?_) AllReadyH.nil
        go_simp
        obtain ⟨V3, h6, k6, l6, s6⟩ := alloc_step V2 25 [.int .i64 e.k, .string e.s, .slice na nn nc, .slice la m lc]
        rw [h6]
        have HS6 := Lib.hid s6
        clear s6
        refine hK.out _ _ ⟨l6.keep hHeld.1, l6.keep hHeld.2.1, l6.keep hHeld.2.2.1, l6.keep hHeld.2.2.2.1, l6.keep hHeld.2.2.2.2.1, (((hb0).trans l0).trans l8).trans l6⟩ (fun hHeld => ?_)
        clear hK K
        refine wpAnyH_take (i := 7) (oi := _) (v := ?_) rfl (by kernel_rfl) (by kernel_rfl) (by kernel_rfl) (fun _ _ _ h => h) ?_ (by assumption) ?_
        rotate_left 1
        · first
            | (refine Or.inl ⟨by rfl, ?_⟩; intro w9 hSw; (try dsimp only at hSw); go_simp; (try with_reducible rfl); done)
            | (refine Or.inr ⟨by rfl, ?_⟩; rfl)
        simp only [List.getElem_toArray, List.getElem_cons_succ, List.getElem_cons_zero, Act.put, List.setIfInBounds_toArray, List.set_cons_zero, List.set_cons_succ]
        have hkc := (k8).bel l6
        have z0 := hkc.at 0
        have f0 := hkc.fz 0
        have z1 := hkc.at 1
        have f1 := hkc.fz 1
        have z2 := hkc.at 2
        have f2 := hkc.fz 2
        have z3 := hkc.at 3
        have f3 := hkc.fz 3
        refine wpAnyH_ready (rs := [9]) (by kernel_rfl) (by simp) ?_
        refine AllReadyH.cons (o := _) rfl (fun K hK => ?_) AllReadyH.nil
        go_simp
        obtain ⟨st1, st2, st3⟩ := store_ex (.int .i64 19) (.string s) (.slice none 0 0) (.slice (some ⟨V2.heap.size, 0, none⟩) 1 1) hkc rfl ((((hb0).trans l0).trans l8).trans l6) ((hb0).trans l0).size
        refine hK.out _ _ ⟨st2.keep HC0.out, st2.keep HC1'.out, st2.keep HC2.out, st2.keep HC3.out, hstr _ _ (st3 _ _ _ (by have := HS0.out; have := HS8.out; have := HS6.out; omega) (((k0).bel l8).bel l6)), st2⟩ (fun hHeld => ?_)
        clear hK K
        refine wpAnyH_done (by kernel_rfl) ?_ _
        have HFIN := Lib.hid (And.intro st1 (And.intro (st3 _ _ _ (by have := HS0.out; have := HS8.out; have := HS6.out; omega) (k6)) st2))
        clear st1 st2 st3 hHeld
        go_wp2_with fail
        go_meet
        exact ⟨_, _, s, rfl, hsm, HFIN.out.1, HFIN.out.2.1, HFIN.out.2.2⟩
    · go_simp
      obtain ⟨V1, h6, k6, l6, s6⟩ := alloc_step V0 25 [.int .i64 e.k, .string e.s, .slice na nn nc, .slice la m lc]
      rw [h6]
      have HS6 := Lib.hid s6
      clear s6
      refine hK.out _ _ ⟨l6.keep hHeld.1, l6.keep hHeld.2.1, l6.keep hHeld.2.2.1, l6.keep hHeld.2.2.2.1, (hb0).trans l6⟩ (fun hHeld => ?_)
      clear hK K
      refine wpAnyH_ready (rs := [0, 8]) (by kernel_rfl) (by simp) ?_
      refine AllReadyH.cons (o := _) rfl (fun K hK => ?_) (AllReadyH.cons (o := _) rfl (fun K hK => ?_) AllReadyH.nil)
      · go_simp
        obtain ⟨V2, h0, k0, l0, s0⟩ := alloc_step V1 9 [.string ⟨#[60]⟩, .string ⟨#[60, 61]⟩, .string ⟨#[62]⟩, .string ⟨#[62, 61]⟩]
        rw [h0]
        have HS0 := Lib.hid s0
        clear s0
        refine hK.out _ _ ⟨l0.keep hHeld.1, l0.keep hHeld.2.1, l0.keep hHeld.2.2.1, l0.keep hHeld.2.2.2.1, ((hb0).trans l6).trans l0⟩ (fun hHeld => ?_)
        clear hK K
        have hst := (hstr V1.heap.size V2 k0)
        refine wpAnyH_weaken (S' := fun w' => w'.cell? ⟨w.heap.size, 0, none⟩ = some (.int .i64 e.k) ∧ w'.cell? ⟨w.heap.size, 1, none⟩ = some (.string e.s) ∧ w'.cell? ⟨w.heap.size, 2, none⟩ = some (.slice na nn nc) ∧ w'.cell? ⟨w.heap.size, 3, none⟩ = some (.slice la m lc) ∧ w'.cell? ⟨V1.heap.size, r, none⟩ = some (.string s) ∧ Bel w6 w') (fun _ h => ⟨h.1, h.2.1, h.2.2.1, h.2.2.2.1, h.2.2.2.2.2⟩) _ _ _ _ ?_
        replace hHeld := And.intro hHeld.1 (And.intro hHeld.2.1 (And.intro hHeld.2.2.1 (And.intro hHeld.2.2.2.1 (And.intro hst hHeld.2.2.2.2))))
        refine wpAnyH_take (i := 3) (oi := _) (v := ?_) rfl (by kernel_rfl) (by kernel_rfl) (by kernel_rfl) (fun _ _ _ h => h) ?_ (by assumption) ?_
        rotate_left 1
        · first
            | (refine Or.inl ⟨by rfl, ?_⟩; intro w9 hSw; (try dsimp only at hSw); go_simp; (try with_reducible rfl); done)
            | (refine Or.inr ⟨by rfl, ?_⟩; rfl)
        simp only [List.getElem_toArray, List.getElem_cons_succ, List.getElem_cons_zero, Act.put, List.setIfInBounds_toArray, List.set_cons_zero, List.set_cons_succ]
        refine wpAnyH_take (i := 4) (oi := _) (v := ?_) rfl (by kernel_rfl) (by kernel_rfl) (by kernel_rfl) (fun _ _ _ h => h) ?_ (by assumption) ?_
        rotate_left 1
        · first
            | (refine Or.inl ⟨by rfl, ?_⟩; intro w9 hSw; (try dsimp only at hSw); go_simp; (try with_reducible rfl); done)
            | (refine Or.inr ⟨by rfl, ?_⟩; rfl)
        simp only [List.getElem_toArray, List.getElem_cons_succ, List.getElem_cons_zero, Act.put, List.setIfInBounds_toArray, List.set_cons_zero, List.set_cons_succ]
        refine wpAnyH_take (i := 7) (oi := _) (v := ?_) rfl (by kernel_rfl) (by kernel_rfl) (by kernel_rfl) (fun _ _ _ h => h) ?_ (by assumption) ?_
        rotate_left 1
        · first
            | (refine Or.inl ⟨by rfl, ?_⟩; intro w9 hSw; (try dsimp only at hSw); go_simp; (try with_reducible rfl); done)
            | (refine Or.inr ⟨by rfl, ?_⟩; rfl)
        simp only [List.getElem_toArray, List.getElem_cons_succ, List.getElem_cons_zero, Act.put, List.setIfInBounds_toArray, List.set_cons_zero, List.set_cons_succ]
        refine wpAnyH_ready (rs := [8]) (by kernel_rfl) (by simp) ?_
        refine AllReadyH.cons (o := _) rfl (fun K hK => ?_) AllReadyH.nil
        go_simp
        obtain ⟨V3, h8, k8, l8, s8⟩ := alloc_step V2 25 [.int .i64 0, .string ⟨#[]⟩, .slice none 0 0, .slice none 0 0]
        rw [h8]
        have HS8 := Lib.hid s8
        clear s8
        refine hK.out _ _ ⟨l8.keep hHeld.1, l8.keep hHeld.2.1, l8.keep hHeld.2.2.1, l8.keep hHeld.2.2.2.1, l8.keep hHeld.2.2.2.2.1, (((hb0).trans l6).trans l0).trans l8⟩ (fun hHeld => ?_)
        clear hK K
        have hkc := k8
        have z0 := hkc.at 0
        have f0 := hkc.fz 0
        have z1 := hkc.at 1
        have f1 := hkc.fz 1
        have z2 := hkc.at 2
        have f2 := hkc.fz 2
        have z3 := hkc.at 3
        have f3 := hkc.fz 3
        refine wpAnyH_ready (rs := [9]) (by kernel_rfl) (by simp) ?_
        refine AllReadyH.cons (o := _) rfl (fun K hK => ?_) AllReadyH.nil
        go_simp
        obtain ⟨st1, st2, st3⟩ := store_ex (.int .i64 19) (.string s) (.slice none 0 0) (.slice (some ⟨V0.heap.size, 0, none⟩) 1 1) hkc rfl ((((hb0).trans l6).trans l0).trans l8) (((hb0).trans l6).trans l0).size
        refine hK.out _ _ ⟨st2.keep HC0.out, st2.keep HC1'.out, st2.keep HC2.out, st2.keep HC3.out, hstr _ _ (st3 _ _ _ (by have := HS6.out; have := HS0.out; have := HS8.out; omega) ((k0).bel l8)), st2⟩ (fun hHeld => ?_)
        clear hK K
        refine wpAnyH_done (by kernel_rfl) ?_ _
        have HFIN := Lib.hid (And.intro st1 (And.intro (st3 _ _ _ (by have := HS6.out; have := HS0.out; have := HS8.out; omega) (((k6).bel l0).bel l8)) st2))
        clear st1 st2 st3 hHeld
        go_wp2_with fail
        go_meet
        exact ⟨_, _, s, rfl, hsm, HFIN.out.1, HFIN.out.2.1, HFIN.out.2.2⟩
      · go_simp
        obtain ⟨V2, h8, k8, l8, s8⟩ := alloc_step V1 25 [.int .i64 0, .string ⟨#[]⟩, .slice none 0 0, .slice none 0 0]
        rw [h8]
        have HS8 := Lib.hid s8
        clear s8
        refine hK.out _ _ ⟨l8.keep hHeld.1, l8.keep hHeld.2.1, l8.keep hHeld.2.2.1, l8.keep hHeld.2.2.2.1, ((hb0).trans l6).trans l8⟩ (fun hHeld => ?_)
        clear hK K
        refine wpAnyH_ready (rs := [0]) (by kernel_rfl) (by simp) ?_
        refine AllReadyH.cons (o := _) rfl (fun K hK => ?_) AllReadyH.nil
        go_simp
        obtain ⟨V3, h0, k0, l0, s0⟩ := alloc_step V2 9 [.string ⟨#[60]⟩, .string ⟨#[60, 61]⟩, .string ⟨#[62]⟩, .string ⟨#[62, 61]⟩]
        rw [h0]
        have HS0 := Lib.hid s0
        clear s0
        refine hK.out _ _ ⟨l0.keep hHeld.1, l0.keep hHeld.2.1, l0.keep hHeld.2.2.1, l0.keep hHeld.2.2.2.1, (((hb0).trans l6).trans l8).trans l0⟩ (fun hHeld => ?_)
        clear hK K
        have hst := (hstr V2.heap.size V3 k0)
        refine wpAnyH_weaken (S' := fun w' => w'.cell? ⟨w.heap.size, 0, none⟩ = some (.int .i64 e.k) ∧ w'.cell? ⟨w.heap.size, 1, none⟩ = some (.string e.s) ∧ w'.cell? ⟨w.heap.size, 2, none⟩ = some (.slice na nn nc) ∧ w'.cell? ⟨w.heap.size, 3, none⟩ = some (.slice la m lc) ∧ w'.cell? ⟨V2.heap.size, r, none⟩ = some (.string s) ∧ Bel w6 w') (fun _ h => ⟨h.1, h.2.1, h.2.2.1, h.2.2.2.1, h.2.2.2.2.2⟩) _ _ _ _ ?_
        replace hHeld := And.intro hHeld.1 (And.intro hHeld.2.1 (And.intro hHeld.2.2.1 (And.intro hHeld.2.2.2.1 (And.intro hst hHeld.2.2.2.2))))
        refine wpAnyH_take (i := 3) (oi := _) (v := ?_) rfl (by kernel_rfl) (by kernel_rfl) (by kernel_rfl) (fun _ _ _ h => h) ?_ (by assumption) ?_
        rotate_left 1
        · first
            | (refine Or.inl ⟨by rfl, ?_⟩; intro w9 hSw; (try dsimp only at hSw); go_simp; (try with_reducible rfl); done)
            | (refine Or.inr ⟨by rfl, ?_⟩; rfl)
        simp only [List.getElem_toArray, List.getElem_cons_succ, List.getElem_cons_zero, Act.put, List.setIfInBounds_toArray, List.set_cons_zero, List.set_cons_succ]
        refine wpAnyH_take (i := 4) (oi := _) (v := ?_) rfl (by kernel_rfl) (by kernel_rfl) (by kernel_rfl) (fun _ _ _ h => h) ?_ (by assumption) ?_
        rotate_left 1
        · first
            | (refine Or.inl ⟨by rfl, ?_⟩; intro w9 hSw; (try dsimp only at hSw); go_simp; (try with_reducible rfl); done)
            | (refine Or.inr ⟨by rfl, ?_⟩; rfl)
        simp only [List.getElem_toArray, List.getElem_cons_succ, List.getElem_cons_zero, Act.put, List.setIfInBounds_toArray, List.set_cons_zero, List.set_cons_succ]
        refine wpAnyH_take (i := 7) (oi := _) (v := ?_) rfl (by kernel_rfl) (by kernel_rfl) (by kernel_rfl) (fun _ _ _ h => h) ?_ (by assumption) ?_
        rotate_left 1
        · first
            | (refine Or.inl ⟨by rfl, ?_⟩; intro w9 hSw; (try dsimp only at hSw); go_simp; (try with_reducible rfl); done)
            | (refine Or.inr ⟨by rfl, ?_⟩; rfl)
        simp only [List.getElem_toArray, List.getElem_cons_succ, List.getElem_cons_zero, Act.put, List.setIfInBounds_toArray, List.set_cons_zero, List.set_cons_succ]
        have hkc := (k8).bel l0
        have z0 := hkc.at 0
        have f0 := hkc.fz 0
        have z1 := hkc.at 1
        have f1 := hkc.fz 1
        have z2 := hkc.at 2
        have f2 := hkc.fz 2
        have z3 := hkc.at 3
        have f3 := hkc.fz 3
        refine wpAnyH_ready (rs := [9]) (by kernel_rfl) (by simp) ?_
        refine AllReadyH.cons (o := _) rfl (fun K hK => ?_) AllReadyH.nil
        go_simp
        obtain ⟨st1, st2, st3⟩ := store_ex (.int .i64 19) (.string s) (.slice none 0 0) (.slice (some ⟨V0.heap.size, 0, none⟩) 1 1) hkc rfl ((((hb0).trans l6).trans l8).trans l0) ((hb0).trans l6).size
        refine hK.out _ _ ⟨st2.keep HC0.out, st2.keep HC1'.out, st2.keep HC2.out, st2.keep HC3.out, hstr _ _ (st3 _ _ _ (by have := HS6.out; have := HS8.out; have := HS0.out; omega) (k0)), st2⟩ (fun hHeld => ?_)
        clear hK K
        refine wpAnyH_done (by kernel_rfl) ?_ _
        have HFIN := Lib.hid (And.intro st1 (And.intro (st3 _ _ _ (by have := HS6.out; have := HS8.out; have := HS0.out; omega) (((k6).bel l8).bel l0)) st2))
        clear st1 st2 st3 hHeld
        go_wp2_with fail
        go_meet
        exact ⟨_, _, s, rfl, hsm, HFIN.out.1, HFIN.out.2.1, HFIN.out.2.2⟩
    · go_simp
      obtain ⟨V1, h8, k8, l8, s8⟩ := alloc_step V0 25 [.int .i64 0, .string ⟨#[]⟩, .slice none 0 0, .slice none 0 0]
      rw [h8]
      have HS8 := Lib.hid s8
      clear s8
      refine hK.out _ _ ⟨l8.keep hHeld.1, l8.keep hHeld.2.1, l8.keep hHeld.2.2.1, l8.keep hHeld.2.2.2.1, (hb0).trans l8⟩ (fun hHeld => ?_)
      clear hK K
      refine wpAnyH_ready (rs := [0, 6]) (by kernel_rfl) (by simp) ?_
      refine AllReadyH.cons (o := _) rfl (fun K hK => ?_) (AllReadyH.cons (o := _) rfl (fun K hK => ?_) AllReadyH.nil)
      · go_simp
        obtain ⟨V2, h0, k0, l0, s0⟩ := alloc_step V1 9 [.string ⟨#[60]⟩, .string ⟨#[60, 61]⟩, .string ⟨#[62]⟩, .string ⟨#[62, 61]⟩]
        rw [h0]
        have HS0 := Lib.hid s0
        clear s0
        refine hK.out _ _ ⟨l0.keep hHeld.1, l0.keep hHeld.2.1, l0.keep hHeld.2.2.1, l0.keep hHeld.2.2.2.1, ((hb0).trans l8).trans l0⟩ (fun hHeld => ?_)
        clear hK K
        have hst := (hstr V1.heap.size V2 k0)
        refine wpAnyH_weaken (S' := fun w' => w'.cell? ⟨w.heap.size, 0, none⟩ = some (.int .i64 e.k) ∧ w'.cell? ⟨w.heap.size, 1, none⟩ = some (.string e.s) ∧ w'.cell? ⟨w.heap.size, 2, none⟩ = some (.slice na nn nc) ∧ w'.cell? ⟨w.heap.size, 3, none⟩ = some (.slice la m lc) ∧ w'.cell? ⟨V1.heap.size, r, none⟩ = some (.string s) ∧ Bel w6 w') (fun _ h => ⟨h.1, h.2.1, h.2.2.1, h.2.2.2.1, h.2.2.2.2.2⟩) _ _ _ _ ?_
        replace hHeld := And.intro hHeld.1 (And.intro hHeld.2.1 (And.intro hHeld.2.2.1 (And.intro hHeld.2.2.2.1 (And.intro hst hHeld.2.2.2.2))))
        refine wpAnyH_take (i := 3) (oi := _) (v := ?_) rfl (by kernel_rfl) (by kernel_rfl) (by kernel_rfl) (fun _ _ _ h => h) ?_ (by assumption) ?_
        rotate_left 1
        · first
            | (refine Or.inl ⟨by rfl, ?_⟩; intro w9 hSw; (try dsimp only at hSw); go_simp; (try with_reducible rfl); done)
            | (refine Or.inr ⟨by rfl, ?_⟩; rfl)
        simp only [List.getElem_toArray, List.getElem_cons_succ, List.getElem_cons_zero, Act.put, List.setIfInBounds_toArray, List.set_cons_zero, List.set_cons_succ]
        refine wpAnyH_take (i := 4) (oi := _) (v := ?_) rfl (by kernel_rfl) (by kernel_rfl) (by kernel_rfl) (fun _ _ _ h => h) ?_ (by assumption) ?_
        rotate_left 1
        · first
            | (refine Or.inl ⟨by rfl, ?_⟩; intro w9 hSw; (try dsimp only at hSw); go_simp; (try with_reducible rfl); done)
            | (refine Or.inr ⟨by rfl, ?_⟩; rfl)
        simp only [List.getElem_toArray, List.getElem_cons_succ, List.getElem_cons_zero, Act.put, List.setIfInBounds_toArray, List.set_cons_zero, List.set_cons_succ]
        refine wpAnyH_ready (rs := [6]) (by kernel_rfl) (by simp) ?_
        refine AllReadyH.cons (o := _) rfl (fun K hK => ?_) AllReadyH.nil
        go_simp
        obtain ⟨V3, h6, k6, l6, s6⟩ := alloc_step V2 25 [.int .i64 e.k, .string e.s, .slice na nn nc, .slice la m lc]
        rw [h6]
        have HS6 := Lib.hid s6
        clear s6
        refine hK.out _ _ ⟨l6.keep hHeld.1, l6.keep hHeld.2.1, l6.keep hHeld.2.2.1, l6.keep hHeld.2.2.2.1, l6.keep hHeld.2.2.2.2.1, (((hb0).trans l8).trans l0).trans l6⟩ (fun hHeld => ?_)
        clear hK K
        refine wpAnyH_take (i := 7) (oi := _) (v := ?_) rfl (by kernel_rfl) (by kernel_rfl) (by kernel_rfl) (fun _ _ _ h => h) ?_ (by assumption) ?_
        rotate_left 1
        · first
            | (refine Or.inl ⟨by rfl, ?_⟩; intro w9 hSw; (try dsimp only at hSw); go_simp; (try with_reducible rfl); done)
            | (refine Or.inr ⟨by rfl, ?_⟩; rfl)
        simp only [List.getElem_toArray, List.getElem_cons_succ, List.getElem_cons_zero, Act.put, List.setIfInBounds_toArray, List.set_cons_zero, List.set_cons_succ]
        have hkc := ((k8).bel l0).bel l6
        have z0 := hkc.at 0
        have f0 := hkc.fz 0
        have z1 := hkc.at 1
        have f1 := hkc.fz 1
        have z2 := hkc.at 2
        have f2 := hkc.fz 2
        have z3 := hkc.at 3
        have f3 := hkc.fz 3
        refine wpAnyH_ready (rs := [9]) (by kernel_rfl) (by simp) ?_
        refine AllReadyH.cons (o := _) rfl (fun K hK => ?_) AllReadyH.nil
        go_simp
        obtain ⟨st1, st2, st3⟩ := store_ex (.int .i64 19) (.string s) (.slice none 0 0) (.slice (some ⟨V2.heap.size, 0, none⟩) 1 1) hkc rfl ((((hb0).trans l8).trans l0).trans l6) (hb0).size
        refine hK.out _ _ ⟨st2.keep HC0.out, st2.keep HC1'.out, st2.keep HC2.out, st2.keep HC3.out, hstr _ _ (st3 _ _ _ (by have := HS8.out; have := HS0.out; have := HS6.out; omega) ((k0).bel l6)), st2⟩ (fun hHeld => ?_)
        clear hK K
        refine wpAnyH_done (by kernel_rfl) ?_ _
        have HFIN := Lib.hid (And.intro st1 (And.intro (st3 _ _ _ (by have := HS8.out; have := HS0.out; have := HS6.out; omega) (k6)) st2))
        clear st1 st2 st3 hHeld
        go_wp2_with fail
        go_meet
        exact ⟨_, _, s, rfl, hsm, HFIN.out.1, HFIN.out.2.1, HFIN.out.2.2⟩
      · go_simp
        obtain ⟨V2, h6, k6, l6, s6⟩ := alloc_step V1 25 [.int .i64 e.k, .string e.s, .slice na nn nc, .slice la m lc]
        rw [h6]
        have HS6 := Lib.hid s6
        clear s6
        refine hK.out _ _ ⟨l6.keep hHeld.1, l6.keep hHeld.2.1, l6.keep hHeld.2.2.1, l6.keep hHeld.2.2.2.1, ((hb0).trans l8).trans l6⟩ (fun hHeld => ?_)
        clear hK K
        refine wpAnyH_ready (rs := [0]) (by kernel_rfl) (by simp) ?_
        refine AllReadyH.cons (o := _) rfl (fun K hK => ?_) AllReadyH.nil
        go_simp
        obtain ⟨V3, h0, k0, l0, s0⟩ := alloc_step V2 9 [.string ⟨#[60]⟩, .string ⟨#[60, 61]⟩, .string ⟨#[62]⟩, .string ⟨#[62, 61]⟩]
        rw [h0]
        have HS0 := Lib.hid s0
        clear s0
        refine hK.out _ _ ⟨l0.keep hHeld.1, l0.keep hHeld.2.1, l0.keep hHeld.2.2.1, l0.keep hHeld.2.2.2.1, (((hb0).trans l8).trans l6).trans l0⟩ (fun hHeld => ?_)
        clear hK K
        have hst := (hstr V2.heap.size V3 k0)
        refine wpAnyH_weaken (S' := fun w' => w'.cell? ⟨w.heap.size, 0, none⟩ = some (.int .i64 e.k) ∧ w'.cell? ⟨w.heap.size, 1, none⟩ = some (.string e.s) ∧ w'.cell? ⟨w.heap.size, 2, none⟩ = some (.slice na nn nc) ∧ w'.cell? ⟨w.heap.size, 3, none⟩ = some (.slice la m lc) ∧ w'.cell? ⟨V2.heap.size, r, none⟩ = some (.string s) ∧ Bel w6 w') (fun _ h => ⟨h.1, h.2.1, h.2.2.1, h.2.2.2.1, h.2.2.2.2.2⟩) _ _ _ _ ?_
        replace hHeld := And.intro hHeld.1 (And.intro hHeld.2.1 (And.intro hHeld.2.2.1 (And.intro hHeld.2.2.2.1 (And.intro hst hHeld.2.2.2.2))))
        refine wpAnyH_take (i := 3) (oi := _) (v := ?_) rfl (by kernel_rfl) (by kernel_rfl) (by kernel_rfl) (fun _ _ _ h => h) ?_ (by assumption) ?_
        rotate_left 1
        · first
            | (refine Or.inl ⟨by rfl, ?_⟩; intro w9 hSw; (try dsimp only at hSw); go_simp; (try with_reducible rfl); done)
            | (refine Or.inr ⟨by rfl, ?_⟩; rfl)
        simp only [List.getElem_toArray, List.getElem_cons_succ, List.getElem_cons_zero, Act.put, List.setIfInBounds_toArray, List.set_cons_zero, List.set_cons_succ]
        refine wpAnyH_take (i := 4) (oi := _) (v := ?_) rfl (by kernel_rfl) (by kernel_rfl) (by kernel_rfl) (fun _ _ _ h => h) ?_ (by assumption) ?_
        rotate_left 1
        · first
            | (refine Or.inl ⟨by rfl, ?_⟩; intro w9 hSw; (try dsimp only at hSw); go_simp; (try with_reducible rfl); done)
            | (refine Or.inr ⟨by rfl, ?_⟩; rfl)
        simp only [List.getElem_toArray, List.getElem_cons_succ, List.getElem_cons_zero, Act.put, List.setIfInBounds_toArray, List.set_cons_zero, List.set_cons_succ]
        refine wpAnyH_take (i := 7) (oi := _) (v := ?_) rfl (by kernel_rfl) (by kernel_rfl) (by kernel_rfl) (fun _ _ _ h => h) ?_ (by assumption) ?_
        rotate_left 1
        · first
            | (refine Or.inl ⟨by rfl, ?_⟩; intro w9 hSw; (try dsimp only at hSw); go_simp; (try with_reducible rfl); done)
            | (refine Or.inr ⟨by rfl, ?_⟩; rfl)
        simp only [List.getElem_toArray, List.getElem_cons_succ, List.getElem_cons_zero, Act.put, List.setIfInBounds_toArray, List.set_cons_zero, List.set_cons_succ]
        have hkc := ((k8).bel l6).bel l0
        have z0 := hkc.at 0
        have f0 := hkc.fz 0
        have z1 := hkc.at 1
        have f1 := hkc.fz 1
        have z2 := hkc.at 2
        have f2 := hkc.fz 2
        have z3 := hkc.at 3
        have f3 := hkc.fz 3
        refine wpAnyH_ready (rs := [9]) (by kernel_rfl) (by simp) ?_
        refine AllReadyH.cons (o := _) rfl (fun K hK => ?_) AllReadyH.nil
        go_simp
        obtain ⟨st1, st2, st3⟩ := store_ex (.int .i64 19) (.string s) (.slice none 0 0) (.slice (some ⟨V1.heap.size, 0, none⟩) 1 1) hkc rfl ((((hb0).trans l8).trans l6).trans l0) (hb0).size
        refine hK.out _ _ ⟨st2.keep HC0.out, st2.keep HC1'.out, st2.keep HC2.out, st2.keep HC3.out, hstr _ _ (st3 _ _ _ (by have := HS8.out; have := HS6.out; have := HS0.out; omega) (k0)), st2⟩ (fun hHeld => ?_)
        clear hK K
        refine wpAnyH_done (by kernel_rfl) ?_ _
        have HFIN := Lib.hid (And.intro st1 (And.intro (st3 _ _ _ (by have := HS8.out; have := HS6.out; have := HS0.out; omega) ((k6).bel l0)) st2))
        clear st1 st2 st3 hHeld
        go_wp2_with fail
        go_meet
        exact ⟨_, _, s, rfl, hsm, HFIN.out.1, HFIN.out.2.1, HFIN.out.2.2⟩
  case rest =>
  obtain ⟨pb, tb, s, rfl, hsm, kt, kx, hbc⟩ := hcut
  generalize wc = w7 at hbc kt kx ⊢
  have HSM := Lib.hid hsm
  have HB7 := Lib.hid (HB6.out.trans hbc)
  have HT := Lib.hid kt
  have HTX := Lib.hid kx
  have x0 := hbc.keep c0
  have x1 := hbc.keep c1
  have x2 := hbc.keep c2
  have x3 := hbc.keep c3
  have t0 := kt.at 0
  have t1 := kt.at 1
  have t2 := kt.at 2
  have t3 := kt.at 3
  have HBULK : Hid (e.bulk ≤ 9500) := Lib.hid (by have h1 := HGF.out.1; have h2 := HGF.out.2; unfold bE at h2; omega)
  have xat := exAt_mk (k := 19) (s := s) (ns := []) (n := 1) (by decide) (rowE_nil w7) (exs_one kx rfl (ExAt.bel HB7.out e HX.out)) rfl kx.lt
  have HTAT := Lib.hid xat
  have hpl := kt.lt
  have hwl : w.heap.size < w7.heap.size := cell_lt x0
  clear c0 c1 c2 c3 hsm kt kx hbc HB6 HB5 HB4 HGF hdi hb19 hq0 xat HTX
  go_upto_region 5 with fail
  obtain ⟨A1, h1, ki1, l1, s1⟩ := alloc_step w7 25 [.int .i64 e.k, .string e.s, .slice na nn nc, .slice la m lc, .int .i64 19, .string s, .slice none 0 0, .slice (some ⟨tb, 0, none⟩) 1 1]
  obtain ⟨A2, h2, ki2, l2, s2⟩ := alloc_step A1 25 [.int .i64 7, .string ⟨#[]⟩, .slice none 0 0, .slice (some ⟨w7.heap.size, 0, none⟩) 2 2]
  rw [h1, h2]
  rw [s1] at ki2 s2
  have hb2 := l1.trans l2
  have HI1 := Lib.hid (ki1.bel l2)
  have HI2 := Lib.hid ki2
  have HBA := Lib.hid hb2
  replace x0 := hb2.keep x0
  replace x1 := hb2.keep x1
  replace x2 := hb2.keep x2
  replace x3 := hb2.keep x3
  replace t0 := hb2.keep t0
  replace t1 := hb2.keep t1
  replace t2 := hb2.keep t2
  replace t3 := hb2.keep t3
  replace hpl : pb < A2.heap.size := by omega
  replace hwl : w.heap.size < A2.heap.size := by omega
  clear h1 h2 ki1 ki2 l1 l2 s1 s2 hb2
  go_upto_region 6 with fail
  obtain ⟨A3, h1, ki1, l1, s1⟩ := alloc_step A2 25 [.int .i64 19, .string s, .slice none 0 0, .slice (some ⟨tb, 0, none⟩) 1 1, .int .i64 e.k, .string e.s, .slice na nn nc, .slice la m lc]
  obtain ⟨A4, h2, ki2, l2, s2⟩ := alloc_step A3 25 [.int .i64 7, .string ⟨#[]⟩, .slice none 0 0, .slice (some ⟨A2.heap.size, 0, none⟩) 2 2]
  rw [h1, h2]
  rw [s1] at ki2 s2
  have hb2 := l1.trans l2
  have HO1 := Lib.hid (ki1.bel l2)
  have HBB := Lib.hid hb2
  have o0 := ki2.at 0
  have o1 := ki2.at 1
  have o2 := ki2.at 2
  have o3 := ki2.at 3
  replace x0 := hb2.keep x0
  replace x1 := hb2.keep x1
  replace x2 := hb2.keep x2
  replace x3 := hb2.keep x3
  replace t0 := hb2.keep t0
  replace t1 := hb2.keep t1
  replace t2 := hb2.keep t2
  replace t3 := hb2.keep t3
  replace hpl : pb < A4.heap.size := by omega
  replace hwl : w.heap.size < A4.heap.size := by omega
  have hol : A2.heap.size + 1 < A4.heap.size := by omega
  have hwl1 : w.heap.size < A4.heap.size + 1 := by omega
  have hpl1 : pb < A4.heap.size + 1 := by omega
  have hwn1 : w.heap.size ≠ A4.heap.size + 1 := by omega
  have hpn1 : pb ≠ A4.heap.size + 1 := by omega
  have hwl2 : w.heap.size < A4.heap.size + 1 + 1 := by omega
  have hpl2 : pb < A4.heap.size + 1 + 1 := by omega
  have hwn2 : w.heap.size ≠ A4.heap.size + 1 + 1 := by omega
  have hpn2 : pb ≠ A4.heap.size + 1 + 1 := by omega
  have hwl3 : w.heap.size < A4.heap.size + 1 + 1 + 1 := by omega
  have hpl3 : pb < A4.heap.size + 1 + 1 + 1 := by omega
  have hwn3 : w.heap.size ≠ A4.heap.size + 1 + 1 + 1 := by omega
  have hpn3 : pb ≠ A4.heap.size + 1 + 1 + 1 := by omega
  have hwl4 : w.heap.size < A4.heap.size + 1 + 1 + 1 + 1 := by omega
  have hpl4 : pb < A4.heap.size + 1 + 1 + 1 + 1 := by omega
  have hwn4 : w.heap.size ≠ A4.heap.size + 1 + 1 + 1 + 1 := by omega
  have hpn4 : pb ≠ A4.heap.size + 1 + 1 + 1 + 1 := by omega
  have hwl5 : w.heap.size < A4.heap.size + 1 + 1 + 1 + 1 + 1 := by omega
  have hpl5 : pb < A4.heap.size + 1 + 1 + 1 + 1 + 1 := by omega
  have hwn5 : w.heap.size ≠ A4.heap.size + 1 + 1 + 1 + 1 + 1 := by omega
  have hpn5 : pb ≠ A4.heap.size + 1 + 1 + 1 + 1 + 1 := by omega
  have hwl6 : w.heap.size < A4.heap.size + 1 + 1 + 1 + 1 + 1 + 1 := by omega
  have hpl6 : pb < A4.heap.size + 1 + 1 + 1 + 1 + 1 + 1 := by omega
  have hwn6 : w.heap.size ≠ A4.heap.size + 1 + 1 + 1 + 1 + 1 + 1 := by omega
  have hpn6 : pb ≠ A4.heap.size + 1 + 1 + 1 + 1 + 1 + 1 := by omega
  clear h1 h2 ki1 ki2 l1 l2 s1 s2 hb2
  go_wp2_with fail
  obtain ⟨B1, h1, k1, l1, s1⟩ := alloc_step A4 25 [.int .i64 19, .string s, .slice none 0 0, .slice (some ⟨tb, 0, none⟩) 1 1]
  obtain ⟨B2, h2, k2, l2, s2⟩ := alloc_step B1 25 [.int .i64 e.k, .string e.s, .slice na nn nc, .slice la m lc, .int .i64 19, .string s, .slice none 0 0, .slice (some ⟨tb, 0, none⟩) 1 1]
  obtain ⟨B3, h3, k3, l3, s3⟩ := alloc_step B2 25 [.int .i64 19, .string s, .slice none 0 0, .slice (some ⟨tb, 0, none⟩) 1 1]
  obtain ⟨B4, h4, k4, l4, s4⟩ := alloc_step B3 25 [.int .i64 19, .string s, .slice none 0 0, .slice (some ⟨tb, 0, none⟩) 1 1]
  obtain ⟨B5, h5, k5, l5, s5⟩ := alloc_step B4 25 [.int .i64 e.k, .string e.s, .slice na nn nc, .slice la m lc, .int .i64 16, .string ⟨#[]⟩, .slice none 0 0, .slice (some ⟨A4.heap.size + 1 + 1 + 1, 0, none⟩) 1 1]
  obtain ⟨B6, h6, k6, l6, s6⟩ := alloc_step B5 25 [.int .i64 7, .string ⟨#[]⟩, .slice none 0 0, .slice (some ⟨A2.heap.size, 0, none⟩) 2 2, .int .i64 4, .string ⟨#[]⟩, .slice none 0 0, .slice (some ⟨A4.heap.size, 0, none⟩) 1 1, .int .i64 16, .string ⟨#[]⟩, .slice none 0 0, .slice (some ⟨A4.heap.size + 1, 0, none⟩) 2 2, .int .i64 19, .string ⟨#[60]⟩, .slice none 0 0, .slice (some ⟨A4.heap.size + 1 + 1, 0, none⟩) 1 1, .int .i64 7, .string ⟨#[]⟩, .slice none 0 0, .slice (some ⟨A4.heap.size + 1 + 1 + 1 + 1, 0, none⟩) 2 2]
  rw [h1, h2, h3, h4, h5, h6]
  rw [s1] at k2 s2
  rw [s2] at k3 s3
  rw [s3] at k4 s4
  rw [s4] at k5 s5
  rw [s5] at k6
  have m5 := l6
  have m4 := l5.trans m5
  have m3 := l4.trans m4
  have m2 := l3.trans m3
  have m1 := l2.trans m2
  have m0 := l1.trans m1
  have hbA := HBA.out.trans (HBB.out.trans m0)
  have hxe := ExAt.bel (HB7.out.trans hbA) e HX.out
  have hxt := ExAt.bel hbA _ HTAT.out
  have hin : ExAt B6 (inE e (tE s e)) (.slice none 0 0) (.slice (some ⟨w7.heap.size, 0, none⟩) 2 2) := by
    have hb := HI1.out.bel (HBB.out.trans m0)
    exact exAt_mk (by decide) (rowE_nil _) (exs_two hb rfl hxe hxt) rfl hb.lt
  have hout : ExAt B6 (inE (tE s e) e) (.slice none 0 0) (.slice (some ⟨A2.heap.size, 0, none⟩) 2 2) := by
    have hb := HO1.out.bel m0
    exact exAt_mk (by decide) (rowE_nil _) (exs_two hb rfl hxt hxe) rfl hb.lt
  have hneg : ExAt B6 (negE (tE s e)) (.slice none 0 0) (.slice (some ⟨A4.heap.size, 0, none⟩) 1 1) := exAt_mk (by decide) (rowE_nil _) (exs_one (k1.bel m1) rfl hxt) rfl (k1.bel m1).lt
  have hlst : ExAt B6 (listE [e, tE s e]) (.slice none 0 0) (.slice (some ⟨A4.heap.size + 1, 0, none⟩) 2 2) := exAt_mk (by decide) (rowE_nil _) (exs_two (k2.bel m2) rfl hxe hxt) rfl (k2.bel m2).lt
  have htst : ExAt B6 (tE ⟨#[60]⟩ (tE s e)) (.slice none 0 0) (.slice (some ⟨A4.heap.size + 1 + 1, 0, none⟩) 1 1) := exAt_mk (by decide) (rowE_nil _) (exs_one (k3.bel m3) rfl hxt) rfl (k3.bel m3).lt
  have hlt1 : ExAt B6 (listE [tE s e]) (.slice none 0 0) (.slice (some ⟨A4.heap.size + 1 + 1 + 1, 0, none⟩) 1 1) := exAt_mk (by decide) (rowE_nil _) (exs_one (k4.bel m4) rfl hxt) rfl (k4.bel m4).lt
  have hdp : ExAt B6 (inE e (listE [tE s e])) (.slice none 0 0) (.slice (some ⟨A4.heap.size + 1 + 1 + 1 + 1, 0, none⟩) 2 2) := exAt_mk (by decide) (rowE_nil _) (exs_two (k5.bel m5) rfl hxe hlt1) rfl (k5.bel m5).lt
  have hps := parts_of_exs (exs_blk k6 [(inE (tE s e) e, _, _), (negE (tE s e), _, _), (listE [e, tE s e], _, _), (tE ⟨#[60]⟩ (tE s e), _, _), (inE e (listE [tE s e]), _, _)] rfl (by
    intro x hx
    simp only [List.mem_cons, List.not_mem_nil, or_false] at hx
    rcases hx with rfl | rfl | rfl | rfl | rfl
    · exact hout
    · exact hneg
    · exact hlst
    · exact htst
    · exact hdp))
  have hsz : s.size ≤ 2 := by
    have : ∀ y ∈ testS, y.size ≤ 2 := by decide
    exact this s HSM.out
  have hbl : e.bulk ≤ 9500 := HBULK.out
  have hall : ∀ x ∈ [inE (tE s e) e, negE (tE s e), listE [e, tE s e], tE ⟨#[60]⟩ (tE s e), inE e (listE [tE s e])], CheckE x = 17 ∧ x.bulk ≤ 1073741824 := by
    intro x hx
    simp only [List.mem_cons, List.not_mem_nil, or_false] at hx
    rcases hx with rfl | rfl | rfl | rfl | rfl
    · exact ⟨tests_out HSM.out HC1.out HK.out HD.out, by rw [bulk_in, bulk_te]; omega⟩
    · exact ⟨tests_neg HSM.out HC1.out HK.out HD.out, by rw [bulk_neg, bulk_te]; omega⟩
    · exact ⟨tests_list HSM.out HC1.out HK.out HD.out, by rw [bulk_list2, bulk_te]; omega⟩
    · exact ⟨tests_test HSM.out HC1.out HK.out HD.out (by decide), by rw [bulk_te, bulk_te]; show 1 + _ + _ ≤ _; omega⟩
    · exact ⟨tests_deep HSM.out HC1.out HK.out HD.out, by rw [bulk_in, bulk_list1, bulk_te]; omega⟩
  obtain ⟨L, hL⟩ : ∃ L, [inE (tE s e) e, negE (tE s e), listE [e, tE s e], tE ⟨#[60]⟩ (tE s e), inE e (listE [tE s e])] = L := ⟨_, rfl⟩
  rw [hL] at hall
  have hps2 : PartsAt B6 (some ⟨A4.heap.size + 1 + 1 + 1 + 1 + 1, 0, none⟩) L := by rw [← hL]; exact hps
  have hLl : L.length = 5 := by rw [← hL]; rfl
  obtain ⟨ya, hya⟩ : ∃ a : Option Addr, some ⟨A4.heap.size + 1 + 1 + 1 + 1 + 1, 0, none⟩ = a := ⟨_, rfl⟩
  rw [hya] at hps2 ⊢
  have HPS := Lib.hid hps2
  have HALL := Lib.hid hall
  have HLL := Lib.hid hLl
  have HIN := Lib.hid hin
  have HXE := Lib.hid hxe
  have HXT := Lib.hid hxt
  have i0 := m0.keep (HBB.out.keep (HI2.out.at 0))
  have i1 := m0.keep (HBB.out.keep (HI2.out.at 1))
  have i2 := m0.keep (HBB.out.keep (HI2.out.at 2))
  have i3 := m0.keep (HBB.out.keep (HI2.out.at 3))
  have HBX := Lib.hid (HB7.out.trans hbA)
  replace x0 := m0.keep x0
  replace x1 := m0.keep x1
  replace x2 := m0.keep x2
  replace x3 := m0.keep x3
  replace t0 := m0.keep t0
  replace t1 := m0.keep t1
  replace t2 := m0.keep t2
  replace t3 := m0.keep t3
  clear hwl1 hpl1 hwn1 hpn1 hwl2 hpl2 hwn2 hpn2 hwl3 hpl3 hwn3 hpn3 hwl4 hpl4 hwn4 hpn4 hwl5 hpl5 hwn5 hpn5 hwl6 hpl6 hwn6 hpn6 h1 h2 h3 h4 h5 h6 k1 k2 k3 k4 k5 k6 l1 l2 l3 l4 l5 l6 s1 s2 s3 s4 s5 m0 m1 m2 m3 m4 m5 hbA hxe hxt hin hout hneg hlst htst hlt1 hdp hps hps2 hall hL hLl hya hpl hwl hol o0 o1 o2 o3
  go_loopw [69] (fun i wr => ∃ j : Nat, j ≤ 5 ∧ i = .int .i64 j ∧ Bel B6 wr) (fun i _ => 5 - (intOf i).toNat)
  case atStart => exact ⟨0, Nat.zero_le _, rfl, Bel.refl _⟩
  case round =>
    obtain ⟨j, hj, rfl, hbel⟩ := hrel
    have HB := Lib.hid hbel
    by_cases hlt : j < 5
    · have hlti : (j : Int) < 5 := by omega
      obtain ⟨y, hy⟩ : ∃ y, L[j]? = some y := ⟨_, List.getElem?_eq_getElem (by rw [HLL.out]; exact hlt)⟩
      obtain ⟨b, off, yna, ynn, ync, yla, yln, ylc, rfl, g0, g1, g2, g3, hyat⟩ := HPS.out j y hy
      have f0 := hbel.keep g0
      have f1 := hbel.keep g1
      have f2 := hbel.keep g2
      have f3 := hbel.keep g3
      obtain ⟨hy17, hyb⟩ := HALL.out y (List.mem_of_getElem? hy)
      have HY := Lib.hid (fun W (hW : Bel wr W) => by
        have := HCK.out y _ _ W (HBX.out.trans (hbel.trans hW)) hyb (ExAt.bel (hbel.trans hW) y hyat)
        rw [hy17] at this
        exact this)
      clear g0 g1 g2 g3 hyat hy hy17 hyb hbel x0 x1 x2 x3 t0 t1 t2 t3 i0 i1 i2 i3
      go_wp2_with fail
      refine (HY.out _ (Bel.alloc _ _)).mono ?_
      rintro e8 w8 ⟨rfl, hb8⟩
      go_wp2_with fail
      exact ⟨⟨j + 1, by omega, by go_num, HB.out.trans ((Bel.alloc _ _).trans hb8)⟩, by simp [intOf]; omega⟩
    · obtain rfl : j = 5 := by omega
      have HB := Lib.hid hbel
      replace x0 := hbel.keep x0
      replace x1 := hbel.keep x1
      replace x2 := hbel.keep x2
      replace x3 := hbel.keep x3
      replace t0 := hbel.keep t0
      replace t1 := hbel.keep t1
      replace t2 := hbel.keep t2
      replace t3 := hbel.keep t3
      replace i0 := hbel.keep i0
      replace i1 := hbel.keep i1
      replace i2 := hbel.keep i2
      replace i3 := hbel.keep i3
      have hbl2 := HBULK.out
      have hsz : s.size ≤ 2 := (by decide : ∀ y ∈ testS, y.size ≤ 2) s HSM.out
      have hbt := bulk_te s e
      have hbi := bulk_in e (tE s e)
      have hct := fun W (hW : Bel wr W) => HCK.out (tE s e) _ _ W (HBX.out.trans (hbel.trans hW)) (by omega) (ExAt.bel (hbel.trans hW) _ HXT.out)
      have hci := fun W (hW : Bel wr W) => HCK.out (inE e (tE s e)) _ _ W (HBX.out.trans (hbel.trans hW)) (by omega) (ExAt.bel (hbel.trans hW) _ HIN.out)
      rw [tests_t HSM.out HC1.out HK.out HD.out] at hct
      rw [tests_in HSM.out HC1.out HK.out HD.out] at hci
      have hfi := fun W (hW : Bel wr W) => free_c (inE e (tE s e)) _ _ W (by omega) (ExAt.bel (hbel.trans hW) _ HIN.out)
      have hfx := fun W (hW : Bel wr W) => free_c e _ _ W (by omega) (ExAt.bel (hbel.trans hW) _ HXE.out)
      rw [tests_free] at hfi
      have hni := fun W (hW : Bel wr W) => count_c (inE e (tE s e)).bulk (inE e (tE s e)) (Nat.le_refl _) (by omega) _ _ W (ExAt.bel (hbel.trans hW) _ HIN.out)
      have hnx := fun W (hW : Bel wr W) => count_c e.bulk e (Nat.le_refl _) (by omega) _ _ W (ExAt.bel (hbel.trans hW) _ HXE.out)
      have hcb := cE_bulk e
      obtain ⟨F, hF⟩ : ∃ F, uniqS (freeE e []) = F := ⟨_, rfl⟩
      have hfl : F.length ≤ 9500 := by rw [← hF]; have := uniq_free_len e; omega
      obtain ⟨N, hN⟩ : ∃ N, cE e = N := ⟨_, rfl⟩
      rw [tests_count, hN] at hni
      rw [hN] at hnx hcb
      rw [hF] at hfi hfx
      have hsm2 := fun a1 n1 c1 a2 n2 c2 W (r1 : RowAt0 W (.slice a1 n1 c1) (strsV F)) (r2 : RowAt0 W (.slice a2 n2 c2) (strsV F)) => esame_c F F a1 a2 n1 c1 n2 c2 W (names_of_row0 r1).1 (names_of_row0 r2).1 (by have := (names_of_row0 r1).1; omega) (by have := (names_of_row0 r2).1; omega) (names_of_row0 r1).2.2 (names_of_row0 r2).2.2
      rw [decide_eq_true (rfl : F = F)] at hsm2
      have HCT := Lib.hid hct
      have HCI := Lib.hid hci
      have HFI := Lib.hid hfi
      have HFX := Lib.hid hfx
      have HNI := Lib.hid hni
      have HNX := Lib.hid hnx
      have HSAME := Lib.hid hsm2
      have hN2 : N ≤ 9500 := by omega
      have hw1 : IntKind.i64.wrap (2 * (N : Int)) = 2 * (N : Int) := IntWalk.i64_in _ (by omega)
      have hw2 : IntKind.i64.wrap (2 * (N : Int) + 2) = 2 * (N : Int) + 2 := IntWalk.i64_in _ (by omega)
      have hcast : (((2 * N + 2 : Nat) : Int)) = 2 * (N : Int) + 2 := by omega
      clear hct hci hfi hfx hni hnx hsm2 hbel hbt hbi hcb hF hfl hN hsz hbl2
      go_wp2_with fail
      refine wp_region_held_drew (S := fun w' => w'.cell? ⟨w.heap.size, 0, none⟩ = some (.int .i64 e.k) ∧ w'.cell? ⟨w.heap.size, 1, none⟩ = some (.string e.s) ∧ w'.cell? ⟨w.heap.size, 2, none⟩ = some (.slice na nn nc) ∧ w'.cell? ⟨w.heap.size, 3, none⟩ = some (.slice la m lc) ∧ w'.cell? ⟨pb, 0, none⟩ = some (.int .i64 19) ∧ w'.cell? ⟨pb, 1, none⟩ = some (.string s) ∧ w'.cell? ⟨pb, 2, none⟩ = some (.slice none 0 0) ∧ w'.cell? ⟨pb, 3, none⟩ = some (.slice (some ⟨tb, 0, none⟩) 1 1) ∧ w'.cell? ⟨w7.heap.size + 1, 0, none⟩ = some (.int .i64 7) ∧ w'.cell? ⟨w7.heap.size + 1, 1, none⟩ = some (.string ⟨#[]⟩) ∧ w'.cell? ⟨w7.heap.size + 1, 2, none⟩ = some (.slice none 0 0) ∧ w'.cell? ⟨w7.heap.size + 1, 3, none⟩ = some (.slice (some ⟨w7.heap.size, 0, none⟩) 2 2) ∧ Bel wr w') (by kernel_rfl) ⟨by go_simp, by go_simp, by go_simp, by go_simp, by go_simp, by go_simp, by go_simp, by go_simp, by go_simp, by go_simp, by go_simp, by go_simp, by (repeat (first | exact Bel.refl _ | assumption | refine Bel.to_drewN ?_ _ | refine Bel.to_drew ?_ | refine Bel.to_setCell ?_ (by first | exact Nat.le_refl _ | (simp; done) | (simp; omega) | omega) _ | refine Bel.to_alloc ?_ _ | refine Bel.trans ?_ (by assumption)))⟩ (fun hHeld => ?_)
      have hb0 : Bel wr wr.drew := Bel.drew _
      clear x0 x1 x2 x3 t0 t1 t2 t3 i0 i1 i2 i3
      refine wpAnyH_take (i := 0) (oi := _) (v := ?_) rfl (by kernel_rfl) (by kernel_rfl) (by kernel_rfl) (fun _ _ _ h => h) ?_ (by assumption) ?_
      rotate_left 1
      · first
          | (refine Or.inl ⟨by rfl, ?_⟩; intro w9 hSw; (try dsimp only at hSw); go_simp; (try with_reducible rfl); done)
          | (refine Or.inr ⟨by rfl, ?_⟩; rfl)
      simp only [List.getElem_toArray, List.getElem_cons_zero, Act.put, List.setIfInBounds_toArray, List.set_cons_zero, List.set_cons_succ]
      refine wpAnyH_ready (rs := [1]) (by kernel_rfl) (by simp) ?_
      refine AllReadyH.cons (o := _) rfl (fun K hK => ?_) AllReadyH.nil
      go_simp
      go_at_call 19
      refine (HCT.out _ hb0).mono ?_
      rintro e8 w8 ⟨rfl, hq1⟩
      dsimp only
      have hn1 := hb0.trans hq1
      refine hK.out _ _ (by obtain ⟨h0, h1, h2, h3, h4, h5, h6, h7, h8, h9, h10, h11, _⟩ := hHeld; exact ⟨hq1.keep h0, hq1.keep h1, hq1.keep h2, hq1.keep h3, hq1.keep h4, hq1.keep h5, hq1.keep h6, hq1.keep h7, hq1.keep h8, hq1.keep h9, hq1.keep h10, hq1.keep h11, hn1⟩) (fun hHeld => ?_)
      clear hK K
      have hb1 := hn1
      refine wpAnyH_take (i := 2) (oi := _) (v := ?_) rfl (by kernel_rfl) (by kernel_rfl) (by kernel_rfl) (fun _ _ _ h => h) ?_ (by assumption) ?_
      rotate_left 1
      · first
          | (refine Or.inl ⟨by rfl, ?_⟩; intro w9 hSw; (try dsimp only at hSw); go_simp; (try with_reducible rfl); done)
          | (refine Or.inr ⟨by rfl, ?_⟩; rfl)
      simp only [List.getElem_toArray, List.getElem_cons_succ, List.getElem_cons_zero, Act.put, List.setIfInBounds_toArray, List.set_cons_zero, List.set_cons_succ]
      refine wpAnyH_take (i := 3) (oi := _) (v := ?_) rfl (by kernel_rfl) (by kernel_rfl) (by kernel_rfl) (fun _ _ _ h => h) ?_ (by assumption) ?_
      rotate_left 1
      · first
          | (refine Or.inl ⟨by rfl, ?_⟩; intro w9 hSw; (try dsimp only at hSw); go_simp; (try with_reducible rfl); done)
          | (refine Or.inr ⟨by rfl, ?_⟩; rfl)
      simp only [List.getElem_toArray, List.getElem_cons_succ, List.getElem_cons_zero, Act.put, List.setIfInBounds_toArray, List.set_cons_zero, List.set_cons_succ]
      refine wpAnyH_take (i := 4) (oi := _) (v := ?_) rfl (by kernel_rfl) (by kernel_rfl) (by kernel_rfl) (fun _ _ _ h => h) ?_ (by assumption) ?_
      rotate_left 1
      · first
          | (refine Or.inl ⟨by rfl, ?_⟩; intro w9 hSw; (try dsimp only at hSw); go_simp; (try with_reducible rfl); done)
          | (refine Or.inr ⟨by rfl, ?_⟩; rfl)
      simp only [List.getElem_toArray, List.getElem_cons_succ, List.getElem_cons_zero, Act.put, List.setIfInBounds_toArray, List.set_cons_zero, List.set_cons_succ]
      refine wpAnyH_ready (rs := [5]) (by kernel_rfl) (by simp) ?_
      refine AllReadyH.cons (o := _) rfl (fun K hK => ?_) AllReadyH.nil
      go_simp
      go_at_call 19
      refine (HCI.out _ hb1).mono ?_
      rintro e9 w9 ⟨rfl, hq2⟩
      dsimp only
      have hn2 := hb1.trans hq2
      refine hK.out _ _ (by obtain ⟨h0, h1, h2, h3, h4, h5, h6, h7, h8, h9, h10, h11, _⟩ := hHeld; exact ⟨hq2.keep h0, hq2.keep h1, hq2.keep h2, hq2.keep h3, hq2.keep h4, hq2.keep h5, hq2.keep h6, hq2.keep h7, hq2.keep h8, hq2.keep h9, hq2.keep h10, hq2.keep h11, hn2⟩) (fun hHeld => ?_)
      clear hK K
      have hb2 := hn2
      refine wpAnyH_take (i := 6) (oi := _) (v := ?_) rfl (by kernel_rfl) (by kernel_rfl) (by kernel_rfl) (fun _ _ _ h => h) ?_ (by assumption) ?_
      rotate_left 1
      · first
          | (refine Or.inl ⟨by rfl, ?_⟩; intro w9 hSw; (try dsimp only at hSw); go_simp; (try with_reducible rfl); done)
          | (refine Or.inr ⟨by rfl, ?_⟩; rfl)
      simp only [List.getElem_toArray, List.getElem_cons_succ, List.getElem_cons_zero, Act.put, List.setIfInBounds_toArray, List.set_cons_zero, List.set_cons_succ]
      refine wpAnyH_take (i := 7) (oi := _) (v := ?_) rfl (by kernel_rfl) (by kernel_rfl) (by kernel_rfl) (fun _ _ _ h => h) ?_ (by assumption) ?_
      rotate_left 1
      · first
          | (refine Or.inl ⟨by rfl, ?_⟩; intro w9 hSw; (try dsimp only at hSw); go_simp; (try with_reducible rfl); done)
          | (refine Or.inr ⟨by rfl, ?_⟩; rfl)
      simp only [List.getElem_toArray, List.getElem_cons_succ, List.getElem_cons_zero, Act.put, List.setIfInBounds_toArray, List.set_cons_zero, List.set_cons_succ]
      refine wpAnyH_take (i := 8) (oi := _) (v := ?_) rfl (by kernel_rfl) (by kernel_rfl) (by kernel_rfl) (fun _ _ _ h => h) ?_ (by assumption) ?_
      rotate_left 1
      · first
          | (refine Or.inl ⟨by rfl, ?_⟩; intro w9 hSw; (try dsimp only at hSw); go_simp; (try with_reducible rfl); done)
          | (refine Or.inr ⟨by rfl, ?_⟩; rfl)
      simp only [List.getElem_toArray, List.getElem_cons_succ, List.getElem_cons_zero, Act.put, List.setIfInBounds_toArray, List.set_cons_zero, List.set_cons_succ]
      refine wpAnyH_take (i := 9) (oi := _) (v := ?_) rfl (by kernel_rfl) (by kernel_rfl) (by kernel_rfl) (fun _ _ _ h => h) ?_ (by assumption) ?_
      rotate_left 1
      · first
          | (refine Or.inl ⟨by rfl, ?_⟩; intro w9 hSw; (try dsimp only at hSw); go_simp; (try with_reducible rfl); done)
          | (refine Or.inr ⟨by rfl, ?_⟩; rfl)
      simp only [List.getElem_toArray, List.getElem_cons_succ, List.getElem_cons_zero, Act.put, List.setIfInBounds_toArray, List.set_cons_zero, List.set_cons_succ]
      refine wpAnyH_take (i := 11) (oi := _) (v := ?_) rfl (by kernel_rfl) (by kernel_rfl) (by kernel_rfl) (fun _ _ _ h => h) ?_ (by assumption) ?_
      rotate_left 1
      · first
          | (refine Or.inl ⟨by rfl, ?_⟩; intro w9 hSw; (try dsimp only at hSw); go_simp; (try with_reducible rfl); done)
          | (refine Or.inr ⟨by rfl, ?_⟩; rfl)
      simp only [List.getElem_toArray, List.getElem_cons_succ, List.getElem_cons_zero, Act.put, List.setIfInBounds_toArray, List.set_cons_zero, List.set_cons_succ]
      refine wpAnyH_ready (rs := [10]) (by kernel_rfl) (by simp) ?_
      refine AllReadyH.cons (o := _) rfl (fun K hK => ?_) AllReadyH.nil
      go_simp
      go_at_call 17
      refine (HFI.out _ hb2).mono ?_
      rintro e10 w10 ⟨fa, fn, fc, rfl, _, hfr, hq3⟩
      dsimp only
      have hn3 := hb2.trans hq3
      refine hK.out _ _ (by obtain ⟨h0, h1, h2, h3, h4, h5, h6, h7, h8, h9, h10, h11, _⟩ := hHeld; exact ⟨hq3.keep h0, hq3.keep h1, hq3.keep h2, hq3.keep h3, hq3.keep h4, hq3.keep h5, hq3.keep h6, hq3.keep h7, hq3.keep h8, hq3.keep h9, hq3.keep h10, hq3.keep h11, hn3⟩) (fun hHeld => ?_)
      clear hK K
      have hb3 := hn3
      refine wpAnyH_ready (rs := [12]) (by kernel_rfl) (by simp) ?_
      refine AllReadyH.cons (o := _) rfl (fun K hK => ?_) AllReadyH.nil
      go_simp
      go_at_call 17
      refine (HFX.out _ hb3).mono ?_
      rintro e11 w11 ⟨ga, gn, gc, rfl, _, hgr, hq4⟩
      dsimp only
      have hn4 := hb3.trans hq4
      refine hK.out _ _ (by obtain ⟨h0, h1, h2, h3, h4, h5, h6, h7, h8, h9, h10, h11, _⟩ := hHeld; exact ⟨hq4.keep h0, hq4.keep h1, hq4.keep h2, hq4.keep h3, hq4.keep h4, hq4.keep h5, hq4.keep h6, hq4.keep h7, hq4.keep h8, hq4.keep h9, hq4.keep h10, hq4.keep h11, hn4⟩) (fun hHeld => ?_)
      clear hK K
      have hb4 := hn4
      refine wpAnyH_ready (rs := [13]) (by kernel_rfl) (by simp) ?_
      refine AllReadyH.cons (o := _) rfl (fun K hK => ?_) AllReadyH.nil
      go_simp
      go_at_call 16
      refine (HSAME.out _ _ _ _ _ _ _ (hfr.bel hq4) hgr).mono ?_
      rintro e12 w12 ⟨rfl, hq5⟩
      dsimp only
      have hn5 := hb4.trans hq5
      refine hK.out _ _ (by obtain ⟨h0, h1, h2, h3, h4, h5, h6, h7, h8, h9, h10, h11, _⟩ := hHeld; exact ⟨hq5.keep h0, hq5.keep h1, hq5.keep h2, hq5.keep h3, hq5.keep h4, hq5.keep h5, hq5.keep h6, hq5.keep h7, hq5.keep h8, hq5.keep h9, hq5.keep h10, hq5.keep h11, hn5⟩) (fun hHeld => ?_)
      clear hK K
      have hb5 := hn5
      refine wpAnyH_take (i := 14) (oi := _) (v := ?_) rfl (by kernel_rfl) (by kernel_rfl) (by kernel_rfl) (fun _ _ _ h => h) ?_ (by assumption) ?_
      rotate_left 1
      · first
          | (refine Or.inl ⟨by rfl, ?_⟩; intro w9 hSw; (try dsimp only at hSw); go_simp; (try with_reducible rfl); done)
          | (refine Or.inr ⟨by rfl, ?_⟩; rfl)
      simp only [List.getElem_toArray, List.getElem_cons_succ, List.getElem_cons_zero, Act.put, List.setIfInBounds_toArray, List.set_cons_zero, List.set_cons_succ]
      refine wpAnyH_take (i := 15) (oi := _) (v := ?_) rfl (by kernel_rfl) (by kernel_rfl) (by kernel_rfl) (fun _ _ _ h => h) ?_ (by assumption) ?_
      rotate_left 1
      · first
          | (refine Or.inl ⟨by rfl, ?_⟩; intro w9 hSw; (try dsimp only at hSw); go_simp; (try with_reducible rfl); done)
          | (refine Or.inr ⟨by rfl, ?_⟩; rfl)
      simp only [List.getElem_toArray, List.getElem_cons_succ, List.getElem_cons_zero, Act.put, List.setIfInBounds_toArray, List.set_cons_zero, List.set_cons_succ]
      refine wpAnyH_take (i := 16) (oi := _) (v := ?_) rfl (by kernel_rfl) (by kernel_rfl) (by kernel_rfl) (fun _ _ _ h => h) ?_ (by assumption) ?_
      rotate_left 1
      · first
          | (refine Or.inl ⟨by rfl, ?_⟩; intro w9 hSw; (try dsimp only at hSw); go_simp; (try with_reducible rfl); done)
          | (refine Or.inr ⟨by rfl, ?_⟩; rfl)
      simp only [List.getElem_toArray, List.getElem_cons_succ, List.getElem_cons_zero, Act.put, List.setIfInBounds_toArray, List.set_cons_zero, List.set_cons_succ]
      refine wpAnyH_take (i := 18) (oi := _) (v := ?_) rfl (by kernel_rfl) (by kernel_rfl) (by kernel_rfl) (fun _ _ _ h => h) ?_ (by assumption) ?_
      rotate_left 1
      · first
          | (refine Or.inl ⟨by rfl, ?_⟩; intro w9 hSw; (try dsimp only at hSw); go_simp; (try with_reducible rfl); done)
          | (refine Or.inr ⟨by rfl, ?_⟩; rfl)
      simp only [List.getElem_toArray, List.getElem_cons_succ, List.getElem_cons_zero, Act.put, List.setIfInBounds_toArray, List.set_cons_zero, List.set_cons_succ]
      refine wpAnyH_ready (rs := [17]) (by kernel_rfl) (by simp) ?_
      refine AllReadyH.cons (o := _) rfl (fun K hK => ?_) AllReadyH.nil
      go_simp
      go_at_call 22
      refine (HNI.out _ hb5).mono ?_
      rintro e13 w13 ⟨rfl, hq6⟩
      dsimp only
      have hn6 := hb5.trans hq6
      refine hK.out _ _ (by obtain ⟨h0, h1, h2, h3, h4, h5, h6, h7, h8, h9, h10, h11, _⟩ := hHeld; exact ⟨hq6.keep h0, hq6.keep h1, hq6.keep h2, hq6.keep h3, hq6.keep h4, hq6.keep h5, hq6.keep h6, hq6.keep h7, hq6.keep h8, hq6.keep h9, hq6.keep h10, hq6.keep h11, hn6⟩) (fun hHeld => ?_)
      clear hK K
      have hb6 := hn6
      refine wpAnyH_ready (rs := [19]) (by kernel_rfl) (by simp) ?_
      refine AllReadyH.cons (o := _) rfl (fun K hK => ?_) AllReadyH.nil
      go_simp
      go_at_call 22
      refine (HNX.out _ hb6).mono ?_
      rintro e14 w14 ⟨rfl, hq7⟩
      dsimp only
      have hn7 := hb6.trans hq7
      refine hK.out _ _ (by obtain ⟨h0, h1, h2, h3, h4, h5, h6, h7, h8, h9, h10, h11, _⟩ := hHeld; exact ⟨hq7.keep h0, hq7.keep h1, hq7.keep h2, hq7.keep h3, hq7.keep h4, hq7.keep h5, hq7.keep h6, hq7.keep h7, hq7.keep h8, hq7.keep h9, hq7.keep h10, hq7.keep h11, hn7⟩) (fun hHeld => ?_)
      clear hK K
      have hb7 := hn7
      refine wpAnyH_take (i := 20) (oi := _) (v := ?_) rfl (by kernel_rfl) (by kernel_rfl) (by kernel_rfl) (fun _ _ _ h => h) ?_ (by assumption) ?_
      rotate_left 1
      · first
          | (refine Or.inl ⟨by rfl, ?_⟩; intro w9 hSw; (try dsimp only at hSw); go_simp; (try with_reducible rfl); done)
          | (refine Or.inr ⟨by rfl, ?_⟩; rfl)
      simp only [List.getElem_toArray, List.getElem_cons_succ, List.getElem_cons_zero, Act.put, List.setIfInBounds_toArray, List.set_cons_zero, List.set_cons_succ]
      refine wpAnyH_take (i := 21) (oi := _) (v := ?_) rfl (by kernel_rfl) (by kernel_rfl) (by kernel_rfl) (fun _ _ _ h => h) ?_ (by assumption) ?_
      rotate_left 1
      · first
          | (refine Or.inl ⟨by rfl, ?_⟩; intro w9 hSw; (try dsimp only at hSw); go_simp; (try with_reducible rfl); done)
          | (refine Or.inr ⟨by rfl, ?_⟩; rfl)
      simp only [List.getElem_toArray, List.getElem_cons_succ, List.getElem_cons_zero, Act.put, List.setIfInBounds_toArray, List.set_cons_zero, List.set_cons_succ]
      refine wpAnyH_take (i := 22) (oi := _) (v := ?_) rfl (by kernel_rfl) (by kernel_rfl) (by kernel_rfl) (fun _ _ _ h => h) ?_ (by assumption) ?_
      rotate_left 1
      · first
          | (refine Or.inl ⟨by rfl, ?_⟩; intro w9 hSw; (try dsimp only at hSw); go_simp; (try with_reducible rfl); done)
          | (refine Or.inr ⟨by rfl, ?_⟩; rfl)
      simp only [List.getElem_toArray, List.getElem_cons_succ, List.getElem_cons_zero, Act.put, List.setIfInBounds_toArray, List.set_cons_zero, List.set_cons_succ]
      refine wpAnyH_take (i := 23) (oi := _) (v := ?_) rfl (by kernel_rfl) (by kernel_rfl) (by kernel_rfl) (fun _ _ _ h => h) ?_ (by assumption) ?_
      rotate_left 1
      · first
          | (refine Or.inl ⟨by rfl, ?_⟩; intro w9 hSw; (try dsimp only at hSw); go_simp; (try with_reducible rfl); done)
          | (refine Or.inr ⟨by rfl, ?_⟩; rfl)
      simp only [List.getElem_toArray, List.getElem_cons_succ, List.getElem_cons_zero, Act.put, List.setIfInBounds_toArray, List.set_cons_zero, List.set_cons_succ]
      refine wpAnyH_take (i := 24) (oi := _) (v := ?_) rfl (by kernel_rfl) (by kernel_rfl) (by kernel_rfl) (fun _ _ _ h => h) ?_ (by assumption) ?_
      rotate_left 1
      · first
          | (refine Or.inl ⟨by rfl, ?_⟩; intro w9 hSw; (try dsimp only at hSw); go_simp; (try with_reducible rfl); done)
          | (refine Or.inr ⟨by rfl, ?_⟩; rfl)
      simp only [List.getElem_toArray, List.getElem_cons_succ, List.getElem_cons_zero, Act.put, List.setIfInBounds_toArray, List.set_cons_zero, List.set_cons_succ]
      refine wpAnyH_done (by kernel_rfl) ?_ _
      have HFIN := Lib.hid (HBX.out.trans (HB.out.trans hb7))
      go_wp2_with fail
      go_ret
      exact ⟨rfl, HFIN.out⟩
end Go.Proofs.YtgfikaagoflbbaaGreatDoor
