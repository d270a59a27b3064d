/-
  logic: the walks of the document's texts, sameRules, Same, and of the document's tests' Same.
-/
import Derived.Test.YtchbhcjhoocjaaaGreatDoorRLB
import Derived.Test.YtchbhcjhoocjaaaGreatDoorLGK
namespace Go.Proofs.YtchbhcjhoocjaaaGreatDoor
open Go.RowKit

set_option maxRecDepth 100000 in
set_option maxHeartbeats 4000000 in
theorem rtexts_c (l1 l2 : List ByteArray) (a1 a2 : Option Addr) (n1 c1 n2 c2 : Nat) (w : World) (h1 : l1.length = n1) (h2 : l2.length = n2) (hn1 : n1 ≤ 1073741824) (hn2 : n2 ≤ 1073741824) (hs1 : NamesAt w a1 l1) (hs2 : NamesAt w a2 l2) :
    Calls Tryz.prog 42 #[.slice a1 n1 c1, .slice a2 n2 c2] w (RetBel (.bool (decide (l1 = l2))) w) := by
  have H1 := Lib.hid h1
  have H2 := Lib.hid h2
  have S1 := Lib.hid hs1
  have S2 := Lib.hid hs2
  obtain ⟨R, hR⟩ : ∃ R, decide (l1 = l2) = R := ⟨_, rfl⟩
  rw [hR]
  have HR := Lib.hid hR
  clear hR h1 h2 hs1 hs2
  by_cases he : n1 = n2
  · subst he
    go_enter Tryz.func42, Tryz.ntmps42
    go_wp2_with fail
    go_loopw [5] (fun i wr => ∃ k : Nat, k ≤ n1 ∧ i = .int .i64 k ∧ Bel w wr ∧ l1.take k = l2.take k) (fun i _ => n1 - (intOf i).toNat)
    case atStart => exact ⟨0, Nat.zero_le _, rfl, Bel.refl _, by simp⟩
    case round =>
      obtain ⟨k, hk, rfl, hbel, htk⟩ := hrel
      by_cases hkn : k < n1
      · have hki : (k : Int) < n1 := by omega
        obtain ⟨x, hx⟩ : ∃ x, l1[k]? = some x := ⟨_, List.getElem?_eq_getElem (by have := H1.out; omega)⟩
        obtain ⟨y, hy⟩ : ∃ y, l2[k]? = some y := ⟨_, List.getElem?_eq_getElem (by have := H2.out; omega)⟩
        obtain ⟨b1, o1, rfl, hc1⟩ := S1.out k x hx
        obtain ⟨b2, o2, rfl, hc2⟩ := S2.out k y hy
        have d1 := hbel.keep hc1
        have d2 := hbel.keep hc2
        have HX := Lib.hid hx
        have HY := Lib.hid hy
        have HT := Lib.hid htk
        clear hx hy htk hc1 hc2
        go_wp2_with fail
        go_quiet (fail)
        go_wp2_with fail
        · have hxy : (!x.toList == y.toList) = true := by assumption
          go_ret
          have hr : R = false := by
            rw [← HR.out]
            refine decide_eq_false (fun h => ?_)
            subst h
            have h2 := HX.out.symm.trans HY.out
            injection h2 with h2
            rw [h2] at hxy
            simp at hxy
          exact ⟨ret_bool hr.symm, hbel.to_drewN nq⟩
        · have hxy : (!x.toList == y.toList) = false := by assumption
          have h2 : x = y := toList_eq (by simpa using hxy)
          exact ⟨⟨k + 1, by omega, by go_num, hbel.to_drewN nq, take_eq_snoc HT.out HX.out (by rw [h2]; exact HY.out)⟩, by simp [intOf]; omega⟩
      · obtain rfl : k = n1 := by omega
        have hr : R = true := by
          rw [← HR.out]
          exact decide_eq_true (names_eq H1.out H2.out htk)
        subst hr
        clear HR htk
        go_wp2_with fail
        go_ret
        exact ⟨rfl, hbel⟩
  · have hf : R = false := by
      rw [← HR.out]
      simp
      intro e
      rw [e] at H1
      have := H1.out
      have := H2.out
      omega
    subst hf
    have e1 : ((n1 : Int) == n2) = false := by simp; omega
    have e2 : ((n1 : Int) != n2) = true := by simp; omega
    clear he
    go_enter Tryz.func42, Tryz.ntmps42
    go_wp2_with fail
    go_ret
    exact ⟨rfl, by (repeat (first | exact Bel.refl _ | assumption | refine Bel.to_drewN ?_ _ | refine Bel.to_drew ?_ | refine Bel.to_setCell ?_ (by first | exact Nat.le_refl _ | (simp; done) | (simp; omega) | omega) _ | refine Bel.to_alloc ?_ _ | refine Bel.trans ?_ (by assumption)))⟩


set_option maxRecDepth 100000 in
set_option maxHeartbeats 8000000 in
theorem rtsame_c (x y : Te) (vx vy : Value) (w : World) (hx : TeV w x vx) (hy : TeV w y vy) (hbx : Ex.bulk.bulks x.l ≤ 1073741824) (hby : Ex.bulk.bulks y.l ≤ 1073741824) : Calls Tryz.prog 80 #[vx, vy] w (RetBel (.bool (sameT x y)) w) := by
  obtain ⟨xa, n, xc, rfl, hn, hxc, hp⟩ := hx
  obtain ⟨ya, m, yc, rfl, hm, hyc, hq⟩ := hy
  have HSE := Lib.hid (fun (e f : Ex) en el fn fl W (he : e.bulk ≤ 1073741824) (hf : f.bulk ≤ 1073741824) (h1 : ExAt W e en el) (h2 : ExAt W f fn fl) => rsame_e e.bulk e (Nat.le_refl _) he f en el fn fl W hf h1 h2)
  have HBX := Lib.hid (ex_mem_bulk hbx)
  have HBY := Lib.hid (ex_mem_bulk hby)
  have PA := Lib.hid hp
  have PB := Lib.hid hq
  have HAM := Lib.hid hn
  have HBM := Lib.hid hm
  have g1 : n ≤ 1073741824 := by have := bulks_len x.l; omega
  have g2 : m ≤ 1073741824 := by have := bulks_len y.l; omega
  obtain ⟨R, hR⟩ : ∃ R, sameT x y = R := ⟨_, rfl⟩
  rw [hR]
  unfold sameT at hR
  obtain ⟨ba, hba⟩ : ∃ z, x.any = z := ⟨_, rfl⟩
  obtain ⟨bb, hbb⟩ : ∃ z, y.any = z := ⟨_, rfl⟩
  obtain ⟨na, hna⟩ : ∃ z, x.no = z := ⟨_, rfl⟩
  obtain ⟨nb, hnb⟩ : ∃ z, y.no = z := ⟨_, rfl⟩
  rw [hba, hbb, hna, hnb] at hR ⊢
  obtain ⟨q3, hq3⟩ : ∃ q, ((n : Int) != m) = q := ⟨_, rfl⟩
  have h1 : ((ba != bb) || (na != nb) || q3) = true → R = false := by
    intro h
    rw [← hR]
    simp only [Bool.or_eq_true] at h
    rcases h with (h | h) | h
    · rw [decide_eq_false (p := ba = bb) (by simpa using h)]; simp
    · rw [decide_eq_false (p := na = nb) (by simpa using h)]; simp
    · rw [samesE_len _ _ (by rw [hn, hm]; rw [← hq3] at h; simp at h; omega)]; simp
  have h2 : ((ba != bb) || (na != nb) || q3) = false → n = m ∧ samesE x.l y.l = R := by
    intro h
    simp only [Bool.or_eq_false_iff] at h
    obtain ⟨⟨e1, e2⟩, e3⟩ := h
    rw [← hq3] at e3
    simp at e1 e2 e3
    refine ⟨by omega, ?_⟩
    rw [← hR, decide_eq_true (p := ba = bb) e1, decide_eq_true (p := na = nb) e2]
    simp
  have H1 := Lib.hid h1
  have H2 := Lib.hid h2
  obtain ⟨V1, z1, m1, l1, s1⟩ := alloc_step w 36 [.bool ba, .bool na, .slice xa n xc]
  obtain ⟨V2, z2, m2, l2, s2⟩ := alloc_step V1 36 [.bool bb, .bool nb, .slice ya m yc]
  rw [s1] at m2
  have TA := Lib.hid (m1.bel l2)
  have TB := Lib.hid m2
  have HB0 := Lib.hid (l1.trans l2)
  have HV1 := Lib.hid z1
  have HV2 := Lib.hid z2
  have c0 := TA.out.at 0
  have d0 := TB.out.at 0
  have c1 := TA.out.at 1
  have d1 := TB.out.at 1
  have c2 := TA.out.at 2
  have d2 := TB.out.at 2
  clear h1 h2 hR hp hq hn hm hbx hby z1 z2 m1 m2 l1 l2 s1 s2 hba hbb hna hnb
  go_enter Tryz.func80, Tryz.ntmps80
  go_upto_region 1 with fail
  rw [show w.alloc (.cells #[.bool ba, .bool na, .slice xa n xc] 36) = V1 from HV1.out, show V1.alloc (.cells #[.bool bb, .bool nb, .slice ya m yc] 36) = V2 from HV2.out]
  clear HV1 HV2
  go_cut [27] (fun v wx => v = .bool ((ba != bb) || (na != nb) || q3) ∧ V2 = wx)
  case first =>
    by_cases h : ba = bb
    · subst h
      by_cases h2 : na = nb
      · subst h2
        cases ba <;> cases na <;> cases q3
        all_goals
          go_wp2_with fail
          go_meet
          exact ⟨rfl, rfl⟩
      · cases ba <;> cases na <;> cases nb <;> first | exact absurd rfl h2 | skip
        all_goals
          clear h2
          go_wp2_with fail
          go_meet
          exact ⟨rfl, rfl⟩
    · cases ba <;> cases bb <;> first | exact absurd rfl h | skip
      all_goals
        clear h
        go_wp2_with fail
        go_meet
        exact ⟨rfl, rfl⟩
  case rest =>
  obtain ⟨rfl, rfl⟩ := hcut
  obtain ⟨Q, hQ⟩ : ∃ Q, ((ba != bb) || (na != nb) || q3) = Q := ⟨_, rfl⟩
  rw [hQ] at H1 H2 ⊢
  clear hq3 hQ
  cases Q with
  | true =>
    have hf := H1.out rfl
    subst hf
    clear H1 H2
    go_wp2_with fail
    go_ret
    exact ⟨rfl, HB0.out⟩
  | false =>
  obtain ⟨e1, e3⟩ := H2.out rfl
  subst e1
  have HE := Lib.hid e3
  clear e3 H1 H2 c0 c1 d0 d1 c2 d2
  go_wp2_with fail
  go_loopw [5] (fun i wr => ∃ j : Nat, j ≤ n ∧ i = .int .i64 j ∧ Bel V2 wr ∧ samesE (x.l.drop j) (y.l.drop j) = R) (fun i _ => n - (intOf i).toNat)
  case atStart => exact ⟨0, Nat.zero_le _, rfl, Bel.refl _, HE.out⟩
  case round =>
    obtain ⟨j, hj, rfl, hbel, hd⟩ := hrel
    have c2 : wr.cell? ⟨w.heap.size, 2, none⟩ = some (.slice xa n xc) := hbel.keep (TA.out.at 2)
    have d2 : wr.cell? ⟨w.heap.size + 1, 2, none⟩ = some (.slice ya n yc) := hbel.keep (TB.out.at 2)
    have HBL := Lib.hid hbel
    have hbw := HB0.out.trans hbel
    clear hbel
    by_cases hkn : j < n
    · have hki : (j : Int) < n := by omega
      obtain ⟨e, hx⟩ : ∃ e, x.l[j]? = some e := ⟨_, List.getElem?_eq_getElem (by have := HAM.out; omega)⟩
      obtain ⟨f, hy⟩ : ∃ f, y.l[j]? = some f := ⟨_, List.getElem?_eq_getElem (by have := HBM.out; omega)⟩
      obtain ⟨b1, o1, xna, xnn, xnc, xla, xln, xlc, rfl, g0, g1', g2', g3', hxa⟩ := PA.out j e hx
      obtain ⟨b2, o2, yna, ynn, ync, yla, yln, ylc, rfl, i0, i1, i2, i3, hya⟩ := PB.out j f hy
      have f0 := hbw.keep g0
      have f1 := hbw.keep g1'
      have f2 := hbw.keep g2'
      have f3 := hbw.keep g3'
      have k0 := hbw.keep i0
      have k1 := hbw.keep i1
      have k2 := hbw.keep i2
      have k3 := hbw.keep i3
      have HC := Lib.hid (fun W (hW : Bel w W) => HSE.out e f (.slice xna xnn xnc) (.slice xla xln xlc) (.slice yna ynn ync) (.slice yla yln ylc) W (HBX.out e (List.mem_of_getElem? hx)) (HBY.out f (List.mem_of_getElem? hy)) (ExAt.bel hW e hxa) (ExAt.bel hW f hya))
      rw [samesE_drop _ _ j e f hx hy] at hd
      obtain ⟨r, hr⟩ : ∃ r, sameE e f = r := ⟨_, rfl⟩
      rw [hr] at HC hd
      have HD := Lib.hid hd
      have HBW := Lib.hid hbw
      clear g0 g1' g2' g3' i0 i1 i2 i3 hxa hya hx hy hr hd hbw HE
      go_wp2_with fail
      refine wp_region_held_drew (S := fun w' => Bel wr w') (by kernel_rfl) (by (repeat (first | exact Bel.refl _ | assumption | refine Bel.to_drewN ?_ _ | refine Bel.to_drew ?_ | refine Bel.to_setCell ?_ (by first | exact Nat.le_refl _ | (simp; done) | (simp; omega) | omega) _ | refine Bel.to_alloc ?_ _ | refine Bel.trans ?_ (by assumption)))) (fun hHeld => ?_)
      refine wpAnyH_take (i := 0) (oi := _) (v := ?_) rfl (by kernel_rfl) (by kernel_rfl) (by kernel_rfl) (fun _ _ _ h => h) ?_ (by assumption) ?_
      rotate_left 1
      · first
          | (refine Or.inl ⟨by rfl, ?_⟩; intro w9 hSw; (try dsimp only at hSw); have e9_0 := Bel.keep hSw c2; have e9_1 := Bel.keep hSw d2; have e9_2 := Bel.keep hSw f0; have e9_3 := Bel.keep hSw f1; have e9_4 := Bel.keep hSw f2; have e9_5 := Bel.keep hSw f3; have e9_6 := Bel.keep hSw k0; have e9_7 := Bel.keep hSw k1; have e9_8 := Bel.keep hSw k2; have e9_9 := Bel.keep hSw k3; go_simp; (try with_reducible rfl); done)
          | (refine Or.inr ⟨by rfl, ?_⟩; rfl)
      simp only [List.getElem_toArray, List.getElem_cons_zero, Act.put, List.setIfInBounds_toArray, List.set_cons_zero, List.set_cons_succ]
      refine wpAnyH_take (i := 1) (oi := _) (v := ?_) rfl (by kernel_rfl) (by kernel_rfl) (by kernel_rfl) (fun _ _ _ h => h) ?_ (by assumption) ?_
      rotate_left 1
      · first
          | (refine Or.inl ⟨by rfl, ?_⟩; intro w9 hSw; (try dsimp only at hSw); have e9_0 := Bel.keep hSw c2; have e9_1 := Bel.keep hSw d2; have e9_2 := Bel.keep hSw f0; have e9_3 := Bel.keep hSw f1; have e9_4 := Bel.keep hSw f2; have e9_5 := Bel.keep hSw f3; have e9_6 := Bel.keep hSw k0; have e9_7 := Bel.keep hSw k1; have e9_8 := Bel.keep hSw k2; have e9_9 := Bel.keep hSw k3; go_simp; (try with_reducible rfl); done)
          | (refine Or.inr ⟨by rfl, ?_⟩; rfl)
      simp only [List.getElem_toArray, List.getElem_cons_succ, List.getElem_cons_zero, Act.put, List.setIfInBounds_toArray, List.set_cons_zero, List.set_cons_succ]
      refine wpAnyH_take (i := 2) (oi := _) (v := ?_) rfl (by kernel_rfl) (by kernel_rfl) (by kernel_rfl) (fun _ _ _ h => h) ?_ (by assumption) ?_
      rotate_left 1
      · first
          | (refine Or.inl ⟨by rfl, ?_⟩; intro w9 hSw; (try dsimp only at hSw); have e9_0 := Bel.keep hSw c2; have e9_1 := Bel.keep hSw d2; have e9_2 := Bel.keep hSw f0; have e9_3 := Bel.keep hSw f1; have e9_4 := Bel.keep hSw f2; have e9_5 := Bel.keep hSw f3; have e9_6 := Bel.keep hSw k0; have e9_7 := Bel.keep hSw k1; have e9_8 := Bel.keep hSw k2; have e9_9 := Bel.keep hSw k3; go_simp; (try with_reducible rfl); done)
          | (refine Or.inr ⟨by rfl, ?_⟩; rfl)
      simp only [List.getElem_toArray, List.getElem_cons_succ, List.getElem_cons_zero, Act.put, List.setIfInBounds_toArray, List.set_cons_zero, List.set_cons_succ]
      refine wpAnyH_take (i := 3) (oi := _) (v := ?_) rfl (by kernel_rfl) (by kernel_rfl) (by kernel_rfl) (fun _ _ _ h => h) ?_ (by assumption) ?_
      rotate_left 1
      · first
          | (refine Or.inl ⟨by rfl, ?_⟩; intro w9 hSw; (try dsimp only at hSw); have e9_0 := Bel.keep hSw c2; have e9_1 := Bel.keep hSw d2; have e9_2 := Bel.keep hSw f0; have e9_3 := Bel.keep hSw f1; have e9_4 := Bel.keep hSw f2; have e9_5 := Bel.keep hSw f3; have e9_6 := Bel.keep hSw k0; have e9_7 := Bel.keep hSw k1; have e9_8 := Bel.keep hSw k2; have e9_9 := Bel.keep hSw k3; go_simp; (try with_reducible rfl); done)
          | (refine Or.inr ⟨by rfl, ?_⟩; rfl)
      simp only [List.getElem_toArray, List.getElem_cons_succ, List.getElem_cons_zero, Act.put, List.setIfInBounds_toArray, List.set_cons_zero, List.set_cons_succ]
      refine wpAnyH_take (i := 4) (oi := _) (v := ?_) rfl (by kernel_rfl) (by kernel_rfl) (by kernel_rfl) (fun _ _ _ h => h) ?_ (by assumption) ?_
      rotate_left 1
      · first
          | (refine Or.inl ⟨by rfl, ?_⟩; intro w9 hSw; (try dsimp only at hSw); have e9_0 := Bel.keep hSw c2; have e9_1 := Bel.keep hSw d2; have e9_2 := Bel.keep hSw f0; have e9_3 := Bel.keep hSw f1; have e9_4 := Bel.keep hSw f2; have e9_5 := Bel.keep hSw f3; have e9_6 := Bel.keep hSw k0; have e9_7 := Bel.keep hSw k1; have e9_8 := Bel.keep hSw k2; have e9_9 := Bel.keep hSw k3; go_simp; (try with_reducible rfl); done)
          | (refine Or.inr ⟨by rfl, ?_⟩; rfl)
      simp only [List.getElem_toArray, List.getElem_cons_succ, List.getElem_cons_zero, Act.put, List.setIfInBounds_toArray, List.set_cons_zero, List.set_cons_succ]
      refine wpAnyH_take (i := 5) (oi := _) (v := ?_) rfl (by kernel_rfl) (by kernel_rfl) (by kernel_rfl) (fun _ _ _ h => h) ?_ (by assumption) ?_
      rotate_left 1
      · first
          | (refine Or.inl ⟨by rfl, ?_⟩; intro w9 hSw; (try dsimp only at hSw); have e9_0 := Bel.keep hSw c2; have e9_1 := Bel.keep hSw d2; have e9_2 := Bel.keep hSw f0; have e9_3 := Bel.keep hSw f1; have e9_4 := Bel.keep hSw f2; have e9_5 := Bel.keep hSw f3; have e9_6 := Bel.keep hSw k0; have e9_7 := Bel.keep hSw k1; have e9_8 := Bel.keep hSw k2; have e9_9 := Bel.keep hSw k3; go_simp; (try with_reducible rfl); done)
          | (refine Or.inr ⟨by rfl, ?_⟩; rfl)
      simp only [List.getElem_toArray, List.getElem_cons_succ, List.getElem_cons_zero, Act.put, List.setIfInBounds_toArray, List.set_cons_zero, List.set_cons_succ]
      refine wpAnyH_take (i := 6) (oi := _) (v := ?_) rfl (by kernel_rfl) (by kernel_rfl) (by kernel_rfl) (fun _ _ _ h => h) ?_ (by assumption) ?_
      rotate_left 1
      · first
          | (refine Or.inl ⟨by rfl, ?_⟩; intro w9 hSw; (try dsimp only at hSw); have e9_0 := Bel.keep hSw c2; have e9_1 := Bel.keep hSw d2; have e9_2 := Bel.keep hSw f0; have e9_3 := Bel.keep hSw f1; have e9_4 := Bel.keep hSw f2; have e9_5 := Bel.keep hSw f3; have e9_6 := Bel.keep hSw k0; have e9_7 := Bel.keep hSw k1; have e9_8 := Bel.keep hSw k2; have e9_9 := Bel.keep hSw k3; go_simp; (try with_reducible rfl); done)
          | (refine Or.inr ⟨by rfl, ?_⟩; rfl)
      simp only [List.getElem_toArray, List.getElem_cons_succ, List.getElem_cons_zero, Act.put, List.setIfInBounds_toArray, List.set_cons_zero, List.set_cons_succ]
      refine wpAnyH_take (i := 7) (oi := _) (v := ?_) rfl (by kernel_rfl) (by kernel_rfl) (by kernel_rfl) (fun _ _ _ h => h) ?_ (by assumption) ?_
      rotate_left 1
      · first
          | (refine Or.inl ⟨by rfl, ?_⟩; intro w9 hSw; (try dsimp only at hSw); have e9_0 := Bel.keep hSw c2; have e9_1 := Bel.keep hSw d2; have e9_2 := Bel.keep hSw f0; have e9_3 := Bel.keep hSw f1; have e9_4 := Bel.keep hSw f2; have e9_5 := Bel.keep hSw f3; have e9_6 := Bel.keep hSw k0; have e9_7 := Bel.keep hSw k1; have e9_8 := Bel.keep hSw k2; have e9_9 := Bel.keep hSw k3; go_simp; (try with_reducible rfl); done)
          | (refine Or.inr ⟨by rfl, ?_⟩; rfl)
      simp only [List.getElem_toArray, List.getElem_cons_succ, List.getElem_cons_zero, Act.put, List.setIfInBounds_toArray, List.set_cons_zero, List.set_cons_succ]
      refine wpAnyH_take (i := 8) (oi := _) (v := ?_) rfl (by kernel_rfl) (by kernel_rfl) (by kernel_rfl) (fun _ _ _ h => h) ?_ (by assumption) ?_
      rotate_left 1
      · first
          | (refine Or.inl ⟨by rfl, ?_⟩; intro w9 hSw; (try dsimp only at hSw); have e9_0 := Bel.keep hSw c2; have e9_1 := Bel.keep hSw d2; have e9_2 := Bel.keep hSw f0; have e9_3 := Bel.keep hSw f1; have e9_4 := Bel.keep hSw f2; have e9_5 := Bel.keep hSw f3; have e9_6 := Bel.keep hSw k0; have e9_7 := Bel.keep hSw k1; have e9_8 := Bel.keep hSw k2; have e9_9 := Bel.keep hSw k3; go_simp; (try with_reducible rfl); done)
          | (refine Or.inr ⟨by rfl, ?_⟩; rfl)
      simp only [List.getElem_toArray, List.getElem_cons_succ, List.getElem_cons_zero, Act.put, List.setIfInBounds_toArray, List.set_cons_zero, List.set_cons_succ]
      refine wpAnyH_take (i := 9) (oi := _) (v := ?_) rfl (by kernel_rfl) (by kernel_rfl) (by kernel_rfl) (fun _ _ _ h => h) ?_ (by assumption) ?_
      rotate_left 1
      · first
          | (refine Or.inl ⟨by rfl, ?_⟩; intro w9 hSw; (try dsimp only at hSw); have e9_0 := Bel.keep hSw c2; have e9_1 := Bel.keep hSw d2; have e9_2 := Bel.keep hSw f0; have e9_3 := Bel.keep hSw f1; have e9_4 := Bel.keep hSw f2; have e9_5 := Bel.keep hSw f3; have e9_6 := Bel.keep hSw k0; have e9_7 := Bel.keep hSw k1; have e9_8 := Bel.keep hSw k2; have e9_9 := Bel.keep hSw k3; go_simp; (try with_reducible rfl); done)
          | (refine Or.inr ⟨by rfl, ?_⟩; rfl)
      simp only [List.getElem_toArray, List.getElem_cons_succ, List.getElem_cons_zero, Act.put, List.setIfInBounds_toArray, List.set_cons_zero, List.set_cons_succ]
      refine wpAnyH_ready (rs := [10]) (by kernel_rfl) (by simp) ?_
      refine AllReadyH.cons (o := _) rfl (fun K hK => ?_) AllReadyH.nil
      go_simp
      go_at_call 41
      refine (HC.out _ (HBW.out.trans hHeld)).mono ?_
      rintro e5 w5 ⟨rfl, hb5⟩
      dsimp only
      have hb6 := hHeld.trans hb5
      refine hK.out _ _ hb6 (fun hHeld => ?_)
      clear hK K
      refine wpAnyH_take (i := 11) (oi := _) (v := ?_) rfl (by kernel_rfl) (by kernel_rfl) (by kernel_rfl) (fun _ _ _ h => h) ?_ (by assumption) ?_
      rotate_left 1
      · first
          | (refine Or.inl ⟨by rfl, ?_⟩; intro w9 hSw; (try dsimp only at hSw); go_simp; (try with_reducible rfl); done)
          | (refine Or.inr ⟨by rfl, ?_⟩; rfl)
      simp only [List.getElem_toArray, List.getElem_cons_succ, List.getElem_cons_zero, Act.put, List.setIfInBounds_toArray, List.set_cons_zero, List.set_cons_succ]
      refine wpAnyH_done (by kernel_rfl) ?_ _
      have HB6 := Lib.hid hb6
      clear hHeld hb5 hb6 c2 d2 f0 f1 f2 f3 k0 k1 k2 k3
      cases r with
      | false =>
        have hf : R = false := by rw [← HD.out]; rfl
        subst hf
        clear HD
        go_wp2_with fail
        go_ret
        exact ⟨rfl, HBW.out.trans HB6.out⟩
      | true =>
        go_wp2_with fail
        exact ⟨⟨j + 1, by omega, by go_num, HBL.out.trans HB6.out, by have := HD.out; simpa using this⟩, by simp [intOf]; omega⟩
    · obtain rfl : j = n := by omega
      have hf : R = true := by
        rw [← hd, List.drop_of_length_le (by have := HAM.out; omega), List.drop_of_length_le (by have := HBM.out; omega)]
        unfold samesE; rfl
      subst hf
      clear HE hd
      go_wp2_with fail
      go_ret
      exact ⟨rfl, hbw⟩

theorem same_parts0 (a b : List Ex) : sameE (.mk 0 ⟨#[]⟩ [] a) (.mk 0 ⟨#[]⟩ [] b) = samesE a b := by
  unfold sameE
  simp
theorem rsame_parts (a b : List Ex) (xa ya : Option Addr) (n xc m yc : Nat) (w : World) (hn : a.length = n) (hc : n ≤ xc) (hp : PartsAt w xa a) (hm : b.length = m) (hd : m ≤ yc) (hq : PartsAt w ya b) (hbx : Ex.bulk.bulks a ≤ 1073741823) (hby : Ex.bulk.bulks b ≤ 1073741823) :
    Calls Tryz.prog 41 #[.agg #[.int .i64 0, .string ⟨#[]⟩, .slice none 0 0, .slice xa n xc], .agg #[.int .i64 0, .string ⟨#[]⟩, .slice none 0 0, .slice ya m yc]] w (RetBel (.bool (samesE a b)) w) := by
  have h := rsame_e _ (.mk 0 ⟨#[]⟩ [] a) (Nat.le_refl _) (by rw [bulk_parts0]; omega) (.mk 0 ⟨#[]⟩ [] b) _ _ _ _ w (by rw [bulk_parts0]; omega) (exAt_parts hp hn hc) (exAt_parts hq hm hd)
  rw [same_parts0] at h
  exact h

end Go.Proofs.YtchbhcjhoocjaaaGreatDoor
