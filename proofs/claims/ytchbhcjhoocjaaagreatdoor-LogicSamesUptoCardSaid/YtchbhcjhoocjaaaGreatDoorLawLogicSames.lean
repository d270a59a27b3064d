/-
  The walk of the law LogicSames: whatever the two logics: true.
-/
import Derived.Test.YtchbhcjhoocjaaaGreatDoorRLD
import Derived.Test.YtchbhcjhoocjaaaGreatDoorRLF
namespace Go.Proofs.YtchbhcjhoocjaaaGreatDoor
open Go.RowKit

theorem sameL_self (a : Lg) : sameL a a = true := (sameL_iff a a).2 rfl
theorem sameL_comm (a b : Lg) : sameL b a = sameL a b := by
  cases h : sameL a b with
  | true => rw [(sameL_iff a b).1 h]; exact sameL_self b
  | false =>
    cases h2 : sameL b a with
    | false => rfl
    | true => rw [(sameL_iff b a).1 h2, sameL_self] at h; exact h
set_option maxRecDepth 100000 in
set_option maxHeartbeats 16000000 in
theorem logicSames_walk {w : World} (a : Lg) (qa : LgQ) (ha : LgAt w a qa) (hba : a.bulk ≤ 1048576) (b : Lg) (qb : LgQ) (hb : LgAt w b qb) (hbb : b.bulk ≤ 1048576) (hE : EnvX w ∧ PolAt w) :
    Calls Tryz.prog 5 #[lgV a qa, lgV b qb] w (RetBel (.bool true) w) := by
  have ha' := ha
  have hb' := hb
  have HX := Lib.hid ha'
  have HY := Lib.hid hb'
  have HE := Lib.hid hE.1
  have HP := Lib.hid hE.2
  have HS := Lib.hid (fun (x y : Lg) qx qy W (hx : x.bulk ≤ 1073741824) (hy : y.bulk ≤ 1073741824) (h1 : LgAt W x qx) (h2 : LgAt W y qy) => same_l x.bulk x (Nat.le_refl _) hx y qx qy W hy h1 h2)
  have HR := Lib.hid (fun W (hW : Bel w W) => rsame_l a.bulk a (Nat.le_refl _) (by omega) b qa qb W (by omega) (LgAt.bel hW a ha') (LgAt.bel hW b hb'))
  have HAB := Lib.hid (fun W (hW : Bel w W) => HS.out a b qa qb W (by omega) (by omega) (LgAt.bel hW a ha') (LgAt.bel hW b hb'))
  have HBA := Lib.hid (fun W (hW : Bel w W) => HS.out b a qb qa W (by omega) (by omega) (LgAt.bel hW b hb') (LgAt.bel hW a ha'))
  have HAA := Lib.hid (fun W (hW : Bel w W) => HS.out a a qa qa W (by omega) (by omega) (LgAt.bel hW a ha') (LgAt.bel hW a ha'))
  obtain ⟨S, hS⟩ : ∃ S, sameL a b = S := ⟨_, rfl⟩
  rw [sameL_self] at HAA
  rw [sameL_comm a b, hS] at HBA
  rw [hS] at HAB HR
  clear HS hS
  obtain ⟨xnea, xnen, xnec, xlea, xlen, xlec, xia, xim, xic, xoa, xom, xoc, xra, xrm, xrc, xna, xnm, xnc, xla, xlm, xlc, rfl, ⟨xhim, xhom, xhrm, xhnm, xhlm⟩, ⟨xhci, xhco, xhcr, xhcn, xhcl⟩, ⟨xhbi, xhbo, xhbr, xhbn, xhbl⟩, xhex, xhpi, xhpo, xhpr, xhpn, xhpl⟩ := LgAt.opened ha
  obtain ⟨ynea, ynen, ynec, ylea, ylen, ylec, yia, yim, yic, yoa, yom, yoc, yra, yrm, yrc, yna, ynm, ync, yla, ylm, ylc, rfl, ⟨yhim, yhom, yhrm, yhnm, yhlm⟩, ⟨yhci, yhco, yhcr, yhcn, yhcl⟩, ⟨yhbi, yhbo, yhbr, yhbn, yhbl⟩, yhex, yhpi, yhpo, yhpr, yhpn, yhpl⟩ := LgAt.opened hb
  unfold lgV at HR HAB HBA HAA
  unfold lgV
  dsimp only at HR HAB HBA HAA ⊢
  obtain ⟨V1, h1, m1, l1, s1⟩ := alloc_step w 30 [.int .i64 a.k, .int .i64 a.e.k, .string a.e.s, .slice xnea xnen xnec, .slice xlea xlen xlec, .string a.p, .slice xia xim xic, .slice xoa xom xoc, .slice xra xrm xrc, .slice xna xnm xnc, .slice xla xlm xlc]
  obtain ⟨V2, h2, m2, l2, s2⟩ := alloc_step V1 30 [.int .i64 b.k, .int .i64 b.e.k, .string b.e.s, .slice ynea ynen ynec, .slice ylea ylen ylec, .string b.p, .slice yia yim yic, .slice yoa yom yoc, .slice yra yrm yrc, .slice yna ynm ync, .slice yla ylm ylc]
  rw [s1] at m2
  have TA := Lib.hid (m1.bel l2)
  have TB := Lib.hid m2
  have HV := Lib.hid (l1.trans l2)
  have HV1 := Lib.hid h1
  have HV2 := Lib.hid h2
  clear xhim xhom xhrm xhnm xhlm xhex xhpi xhpo xhpr xhpn xhpl yhim yhom yhrm yhnm yhlm yhex yhpi yhpo yhpr yhpn yhpl ha ha' hb hb' hE h1 h2 m1 m2 l1 l2 s1 s2
  go_enter Tryz.func5, Tryz.ntmps5
  go_upto_region 1 with fail
  rw [show w.alloc (.cells #[.int .i64 a.k, .int .i64 a.e.k, .string a.e.s, .slice xnea xnen xnec, .slice xlea xlen xlec, .string a.p, .slice xia xim xic, .slice xoa xom xoc, .slice xra xrm xrc, .slice xna xnm xnc, .slice xla xlm xlc] 30) = V1 from HV1.out, show V1.alloc (.cells #[.int .i64 b.k, .int .i64 b.e.k, .string b.e.s, .slice ynea ynen ynec, .slice ylea ylen ylec, .string b.p, .slice yia yim yic, .slice yoa yom yoc, .slice yra yrm yrc, .slice yna ynm ync, .slice yla ylm ylc] 30) = V2 from HV2.out]
  clear HV1 HV2
  go_wp2_with fail
  refine (lalive_c _ (HE.out.bel HV.out) (HP.out.bel HV.out)).mono ?_
  rintro e1 w1 ⟨rfl, hb1⟩
  have ka := TA.out.bel hb1
  have kb := TB.out.bel hb1
  have c0 := Blk.at ka 0
  have c1 := Blk.at ka 1
  have c2 := Blk.at ka 2
  have c3 := Blk.at ka 3
  have c4 := Blk.at ka 4
  have c5 := Blk.at ka 5
  have c6 := Blk.at ka 6
  have c7 := Blk.at ka 7
  have c8 := Blk.at ka 8
  have c9 := Blk.at ka 9
  have c10 := Blk.at ka 10
  have d0 := Blk.at kb 0
  have d1 := Blk.at kb 1
  have d2 := Blk.at kb 2
  have d3 := Blk.at kb 3
  have d4 := Blk.at kb 4
  have d5 := Blk.at kb 5
  have d6 := Blk.at kb 6
  have d7 := Blk.at kb 7
  have d8 := Blk.at kb 8
  have d9 := Blk.at kb 9
  have d10 := Blk.at kb 10
  have HB1 := Lib.hid (HV.out.trans hb1)
  clear hb1 TA TB ka kb
  go_wp2_with fail
  obtain ⟨V3, h3, k3, l3, s3⟩ := alloc_step w1 30 [.int .i64 a.k, .int .i64 a.e.k, .string a.e.s, .slice xnea xnen xnec, .slice xlea xlen xlec, .string a.p, .slice xia xim xic, .slice xoa xom xoc, .slice xra xrm xrc, .slice xna xnm xnc, .slice xla xlm xlc, .int .i64 b.k, .int .i64 b.e.k, .string b.e.s, .slice ynea ynen ynec, .slice ylea ylen ylec, .string b.p, .slice yia yim yic, .slice yoa yom yoc, .slice yra yrm yrc, .slice yna ynm ync, .slice yla ylm ylc]
  rw [h3]
  have hb3 := HB1.out.trans l3
  have HG := Lib.hid (lgreat_c [a, b] (some ⟨w1.heap.size, 0, none⟩) 2 2 V3 rfl (by omega) (fun j x hx => by
    obtain ⟨q, g1, g2⟩ := (lgs_two (qx := ⟨.slice xnea xnen xnec, .slice xlea xlen xlec, .slice xia xim xic, .slice xoa xom xoc, .slice xra xrm xrc, .slice xna xnm xnc, .slice xla xlm xlc⟩) (qy := ⟨.slice ynea ynen ynec, .slice ylea ylen ylec, .slice yia yim yic, .slice yoa yom yoc, .slice yra yrm yrc, .slice yna ynm ync, .slice yla ylm ylc⟩) k3 rfl (LgAt.bel hb3 a HX.out) (LgAt.bel hb3 b HY.out)).get hx
    exact ⟨_, _, q, rfl, g1, g2⟩) (by
    intro x hx
    rcases List.mem_cons.1 hx with rfl | hx
    · omega
    · rw [List.mem_singleton.1 hx]; omega))
  replace c0 := l3.keep c0
  replace c1 := l3.keep c1
  replace c2 := l3.keep c2
  replace c3 := l3.keep c3
  replace c4 := l3.keep c4
  replace c5 := l3.keep c5
  replace c6 := l3.keep c6
  replace c7 := l3.keep c7
  replace c8 := l3.keep c8
  replace c9 := l3.keep c9
  replace c10 := l3.keep c10
  replace d0 := l3.keep d0
  replace d1 := l3.keep d1
  replace d2 := l3.keep d2
  replace d3 := l3.keep d3
  replace d4 := l3.keep d4
  replace d5 := l3.keep d5
  replace d6 := l3.keep d6
  replace d7 := l3.keep d7
  replace d8 := l3.keep d8
  replace d9 := l3.keep d9
  replace d10 := l3.keep d10
  have HB3 := Lib.hid hb3
  clear h3 k3 l3 s3 hb3
  refine HG.out.mono ?_
  rintro e4 w4 ⟨rfl, hb4⟩
  replace c0 := hb4.keep c0
  replace c1 := hb4.keep c1
  replace c2 := hb4.keep c2
  replace c3 := hb4.keep c3
  replace c4 := hb4.keep c4
  replace c5 := hb4.keep c5
  replace c6 := hb4.keep c6
  replace c7 := hb4.keep c7
  replace c8 := hb4.keep c8
  replace c9 := hb4.keep c9
  replace c10 := hb4.keep c10
  replace d0 := hb4.keep d0
  replace d1 := hb4.keep d1
  replace d2 := hb4.keep d2
  replace d3 := hb4.keep d3
  replace d4 := hb4.keep d4
  replace d5 := hb4.keep d5
  replace d6 := hb4.keep d6
  replace d7 := hb4.keep d7
  replace d8 := hb4.keep d8
  replace d9 := hb4.keep d9
  replace d10 := hb4.keep d10
  have HB4 := Lib.hid (HB3.out.trans hb4)
  obtain ⟨g, hg⟩ : ∃ g, [a, b].any greatL = g := ⟨_, rfl⟩
  rw [hg]
  clear hb4 hg HG
  cases g with
  | true =>
    have h1 : oneIf true = 1 := rfl
    rw [h1]
    go_wp2_with fail
    refine (lalive_c _ (HE.out.bel HB4.out) (HP.out.bel HB4.out)).mono ?_
    rintro e5 w5 ⟨rfl, hb5⟩
    go_wp2_with fail
    go_ret
    exact ⟨rfl, HB4.out.trans hb5⟩
  | false =>
  have h1 : oneIf false = 0 := rfl
  rw [h1]
  clear h1
  have hss : (S == S) = true := by simp
  have hst : (true == true) = true := rfl
  go_wp2_with fail
  refine wp_region_held_drew (S := fun w' => Bel w4 w') (by kernel_rfl) (by (repeat (first | exact Bel.refl _ | assumption | refine Bel.to_drewN ?_ _ | refine Bel.to_drew ?_ | refine Bel.to_setCell ?_ (by first | exact Nat.le_refl _ | (simp; done) | (simp; omega) | omega) _ | refine Bel.to_alloc ?_ _ | refine Bel.trans ?_ (by assumption)))) (fun hHeld => ?_)
  refine wpAnyH_take (i := 0) (oi := _) (v := ?_) rfl (by kernel_rfl) (by kernel_rfl) (by kernel_rfl) (fun _ _ _ h => h) ?_ (by assumption) ?_
  rotate_left 1
  · first
      | (refine Or.inl ⟨by rfl, ?_⟩; intro w9 hSw; (try dsimp only at hSw); have e9_0 := Bel.keep hSw c0; have e9_1 := Bel.keep hSw c1; have e9_2 := Bel.keep hSw c2; have e9_3 := Bel.keep hSw c3; have e9_4 := Bel.keep hSw c4; have e9_5 := Bel.keep hSw c5; have e9_6 := Bel.keep hSw c6; have e9_7 := Bel.keep hSw c7; have e9_8 := Bel.keep hSw c8; have e9_9 := Bel.keep hSw c9; have e9_10 := Bel.keep hSw c10; go_simp; (try with_reducible rfl); done)
      | (refine Or.inr ⟨by rfl, ?_⟩; rfl)
  simp only [List.getElem_toArray, List.getElem_cons_zero, Act.put, List.setIfInBounds_toArray, List.set_cons_zero, List.set_cons_succ]
  refine wpAnyH_take (i := 1) (oi := _) (v := ?_) rfl (by kernel_rfl) (by kernel_rfl) (by kernel_rfl) (fun _ _ _ h => h) ?_ (by assumption) ?_
  rotate_left 1
  · first
      | (refine Or.inl ⟨by rfl, ?_⟩; intro w9 hSw; (try dsimp only at hSw); have e9_0 := Bel.keep hSw d0; have e9_1 := Bel.keep hSw d1; have e9_2 := Bel.keep hSw d2; have e9_3 := Bel.keep hSw d3; have e9_4 := Bel.keep hSw d4; have e9_5 := Bel.keep hSw d5; have e9_6 := Bel.keep hSw d6; have e9_7 := Bel.keep hSw d7; have e9_8 := Bel.keep hSw d8; have e9_9 := Bel.keep hSw d9; have e9_10 := Bel.keep hSw d10; go_simp; (try with_reducible rfl); done)
      | (refine Or.inr ⟨by rfl, ?_⟩; rfl)
  simp only [List.getElem_toArray, List.getElem_cons_succ, List.getElem_cons_zero, Act.put, List.setIfInBounds_toArray, List.set_cons_zero, List.set_cons_succ]
  refine wpAnyH_take (i := 3) (oi := _) (v := ?_) rfl (by kernel_rfl) (by kernel_rfl) (by kernel_rfl) (fun _ _ _ h => h) ?_ (by assumption) ?_
  rotate_left 1
  · first
      | (refine Or.inl ⟨by rfl, ?_⟩; intro w9 hSw; (try dsimp only at hSw); have e9_0 := Bel.keep hSw c0; have e9_1 := Bel.keep hSw c1; have e9_2 := Bel.keep hSw c2; have e9_3 := Bel.keep hSw c3; have e9_4 := Bel.keep hSw c4; have e9_5 := Bel.keep hSw c5; have e9_6 := Bel.keep hSw c6; have e9_7 := Bel.keep hSw c7; have e9_8 := Bel.keep hSw c8; have e9_9 := Bel.keep hSw c9; have e9_10 := Bel.keep hSw c10; go_simp; (try with_reducible rfl); done)
      | (refine Or.inr ⟨by rfl, ?_⟩; rfl)
  simp only [List.getElem_toArray, List.getElem_cons_succ, List.getElem_cons_zero, Act.put, List.setIfInBounds_toArray, List.set_cons_zero, List.set_cons_succ]
  refine wpAnyH_take (i := 4) (oi := _) (v := ?_) rfl (by kernel_rfl) (by kernel_rfl) (by kernel_rfl) (fun _ _ _ h => h) ?_ (by assumption) ?_
  rotate_left 1
  · first
      | (refine Or.inl ⟨by rfl, ?_⟩; intro w9 hSw; (try dsimp only at hSw); have e9_0 := Bel.keep hSw d0; have e9_1 := Bel.keep hSw d1; have e9_2 := Bel.keep hSw d2; have e9_3 := Bel.keep hSw d3; have e9_4 := Bel.keep hSw d4; have e9_5 := Bel.keep hSw d5; have e9_6 := Bel.keep hSw d6; have e9_7 := Bel.keep hSw d7; have e9_8 := Bel.keep hSw d8; have e9_9 := Bel.keep hSw d9; have e9_10 := Bel.keep hSw d10; go_simp; (try with_reducible rfl); done)
      | (refine Or.inr ⟨by rfl, ?_⟩; rfl)
  simp only [List.getElem_toArray, List.getElem_cons_succ, List.getElem_cons_zero, Act.put, List.setIfInBounds_toArray, List.set_cons_zero, List.set_cons_succ]
  refine wpAnyH_ready (rs := [2]) (by kernel_rfl) (by simp) ?_
  refine AllReadyH.cons (o := _) rfl (fun K hK => ?_) AllReadyH.nil
  go_simp
  go_at_call 17
  refine (HAB.out _ (HB4.out.trans hHeld)).mono ?_
  rintro e5 w5 ⟨rfl, hb5⟩
  dsimp only
  refine hK.out _ _ (hHeld.trans hb5) (fun hHeld => ?_)
  clear hK K hb5
  refine wpAnyH_ready (rs := [5]) (by kernel_rfl) (by simp) ?_
  refine AllReadyH.cons (o := _) rfl (fun K hK => ?_) AllReadyH.nil
  go_simp
  go_at_call 18
  refine (HR.out _ (HB4.out.trans hHeld)).mono ?_
  rintro e6 w6 ⟨rfl, hb6⟩
  dsimp only
  refine hK.out _ _ (hHeld.trans hb6) (fun hHeld => ?_)
  clear hK K hb6
  refine wpAnyH_take (i := 6) (oi := _) (v := ?_) rfl (by kernel_rfl) (by kernel_rfl) (by kernel_rfl) (fun _ _ _ h => h) ?_ (by assumption) ?_
  rotate_left 1
  · first
      | (refine Or.inl ⟨by rfl, ?_⟩; intro w9 hSw; (try dsimp only at hSw); go_simp; (try with_reducible rfl); done)
      | (refine Or.inr ⟨by rfl, ?_⟩; rfl)
  simp only [List.getElem_toArray, List.getElem_cons_succ, List.getElem_cons_zero, Act.put, List.setIfInBounds_toArray, List.set_cons_zero, List.set_cons_succ]
  refine wpAnyH_take (i := 7) (oi := _) (v := ?_) rfl (by kernel_rfl) (by kernel_rfl) (by kernel_rfl) (fun _ _ _ h => h) ?_ (by assumption) ?_
  rotate_left 1
  · first
      | (refine Or.inl ⟨by rfl, ?_⟩; intro w9 hSw; (try dsimp only at hSw); go_simp; (try with_reducible rfl); done)
      | (refine Or.inr ⟨by rfl, ?_⟩; rfl)
  simp only [List.getElem_toArray, List.getElem_cons_succ, List.getElem_cons_zero, Act.put, List.setIfInBounds_toArray, List.set_cons_zero, List.set_cons_succ]
  refine wpAnyH_take (i := 8) (oi := _) (v := ?_) rfl (by kernel_rfl) (by kernel_rfl) (by kernel_rfl) (fun _ _ _ h => h) ?_ (by assumption) ?_
  rotate_left 1
  · first
      | (refine Or.inl ⟨by rfl, ?_⟩; intro w9 hSw; (try dsimp only at hSw); have e9_0 := Bel.keep hSw d0; have e9_1 := Bel.keep hSw d1; have e9_2 := Bel.keep hSw d2; have e9_3 := Bel.keep hSw d3; have e9_4 := Bel.keep hSw d4; have e9_5 := Bel.keep hSw d5; have e9_6 := Bel.keep hSw d6; have e9_7 := Bel.keep hSw d7; have e9_8 := Bel.keep hSw d8; have e9_9 := Bel.keep hSw d9; have e9_10 := Bel.keep hSw d10; go_simp; (try with_reducible rfl); done)
      | (refine Or.inr ⟨by rfl, ?_⟩; rfl)
  simp only [List.getElem_toArray, List.getElem_cons_succ, List.getElem_cons_zero, Act.put, List.setIfInBounds_toArray, List.set_cons_zero, List.set_cons_succ]
  refine wpAnyH_take (i := 9) (oi := _) (v := ?_) rfl (by kernel_rfl) (by kernel_rfl) (by kernel_rfl) (fun _ _ _ h => h) ?_ (by assumption) ?_
  rotate_left 1
  · first
      | (refine Or.inl ⟨by rfl, ?_⟩; intro w9 hSw; (try dsimp only at hSw); have e9_0 := Bel.keep hSw c0; have e9_1 := Bel.keep hSw c1; have e9_2 := Bel.keep hSw c2; have e9_3 := Bel.keep hSw c3; have e9_4 := Bel.keep hSw c4; have e9_5 := Bel.keep hSw c5; have e9_6 := Bel.keep hSw c6; have e9_7 := Bel.keep hSw c7; have e9_8 := Bel.keep hSw c8; have e9_9 := Bel.keep hSw c9; have e9_10 := Bel.keep hSw c10; go_simp; (try with_reducible rfl); done)
      | (refine Or.inr ⟨by rfl, ?_⟩; rfl)
  simp only [List.getElem_toArray, List.getElem_cons_succ, List.getElem_cons_zero, Act.put, List.setIfInBounds_toArray, List.set_cons_zero, List.set_cons_succ]
  refine wpAnyH_take (i := 11) (oi := _) (v := ?_) rfl (by kernel_rfl) (by kernel_rfl) (by kernel_rfl) (fun _ _ _ h => h) ?_ (by assumption) ?_
  rotate_left 1
  · first
      | (refine Or.inl ⟨by rfl, ?_⟩; intro w9 hSw; (try dsimp only at hSw); have e9_0 := Bel.keep hSw c0; have e9_1 := Bel.keep hSw c1; have e9_2 := Bel.keep hSw c2; have e9_3 := Bel.keep hSw c3; have e9_4 := Bel.keep hSw c4; have e9_5 := Bel.keep hSw c5; have e9_6 := Bel.keep hSw c6; have e9_7 := Bel.keep hSw c7; have e9_8 := Bel.keep hSw c8; have e9_9 := Bel.keep hSw c9; have e9_10 := Bel.keep hSw c10; go_simp; (try with_reducible rfl); done)
      | (refine Or.inr ⟨by rfl, ?_⟩; rfl)
  simp only [List.getElem_toArray, List.getElem_cons_succ, List.getElem_cons_zero, Act.put, List.setIfInBounds_toArray, List.set_cons_zero, List.set_cons_succ]
  refine wpAnyH_take (i := 12) (oi := _) (v := ?_) rfl (by kernel_rfl) (by kernel_rfl) (by kernel_rfl) (fun _ _ _ h => h) ?_ (by assumption) ?_
  rotate_left 1
  · first
      | (refine Or.inl ⟨by rfl, ?_⟩; intro w9 hSw; (try dsimp only at hSw); have e9_0 := Bel.keep hSw d0; have e9_1 := Bel.keep hSw d1; have e9_2 := Bel.keep hSw d2; have e9_3 := Bel.keep hSw d3; have e9_4 := Bel.keep hSw d4; have e9_5 := Bel.keep hSw d5; have e9_6 := Bel.keep hSw d6; have e9_7 := Bel.keep hSw d7; have e9_8 := Bel.keep hSw d8; have e9_9 := Bel.keep hSw d9; have e9_10 := Bel.keep hSw d10; go_simp; (try with_reducible rfl); done)
      | (refine Or.inr ⟨by rfl, ?_⟩; rfl)
  simp only [List.getElem_toArray, List.getElem_cons_succ, List.getElem_cons_zero, Act.put, List.setIfInBounds_toArray, List.set_cons_zero, List.set_cons_succ]
  refine wpAnyH_ready (rs := [10]) (by kernel_rfl) (by simp) ?_
  refine AllReadyH.cons (o := _) rfl (fun K hK => ?_) AllReadyH.nil
  go_simp
  go_at_call 17
  refine (HBA.out _ (HB4.out.trans hHeld)).mono ?_
  rintro e7 w7 ⟨rfl, hb7⟩
  dsimp only
  refine hK.out _ _ (hHeld.trans hb7) (fun hHeld => ?_)
  clear hK K hb7
  refine wpAnyH_ready (rs := [13]) (by kernel_rfl) (by simp) ?_
  refine AllReadyH.cons (o := _) rfl (fun K hK => ?_) AllReadyH.nil
  go_simp
  go_at_call 17
  refine (HAB.out _ (HB4.out.trans hHeld)).mono ?_
  rintro e8 w8 ⟨rfl, hb8⟩
  dsimp only
  refine hK.out _ _ (hHeld.trans hb8) (fun hHeld => ?_)
  clear hK K hb8
  refine wpAnyH_take (i := 14) (oi := _) (v := ?_) rfl (by kernel_rfl) (by kernel_rfl) (by kernel_rfl) (fun _ _ _ h => h) ?_ (by assumption) ?_
  rotate_left 1
  · first
      | (refine Or.inl ⟨by rfl, ?_⟩; intro w9 hSw; (try dsimp only at hSw); go_simp; (try with_reducible rfl); done)
      | (refine Or.inr ⟨by rfl, ?_⟩; rfl)
  simp only [List.getElem_toArray, List.getElem_cons_succ, List.getElem_cons_zero, Act.put, List.setIfInBounds_toArray, List.set_cons_zero, List.set_cons_succ]
  refine wpAnyH_take (i := 15) (oi := _) (v := ?_) rfl (by kernel_rfl) (by kernel_rfl) (by kernel_rfl) (fun _ _ _ h => h) ?_ (by assumption) ?_
  rotate_left 1
  · first
      | (refine Or.inl ⟨by rfl, ?_⟩; intro w9 hSw; (try dsimp only at hSw); go_simp; (try with_reducible rfl); done)
      | (refine Or.inr ⟨by rfl, ?_⟩; rfl)
  simp only [List.getElem_toArray, List.getElem_cons_succ, List.getElem_cons_zero, Act.put, List.setIfInBounds_toArray, List.set_cons_zero, List.set_cons_succ]
  refine wpAnyH_take (i := 16) (oi := _) (v := ?_) rfl (by kernel_rfl) (by kernel_rfl) (by kernel_rfl) (fun _ _ _ h => h) ?_ (by assumption) ?_
  rotate_left 1
  · first
      | (refine Or.inl ⟨by rfl, ?_⟩; intro w9 hSw; (try dsimp only at hSw); go_simp; (try with_reducible rfl); done)
      | (refine Or.inr ⟨by rfl, ?_⟩; rfl)
  simp only [List.getElem_toArray, List.getElem_cons_succ, List.getElem_cons_zero, Act.put, List.setIfInBounds_toArray, List.set_cons_zero, List.set_cons_succ]
  refine wpAnyH_take (i := 17) (oi := _) (v := ?_) rfl (by kernel_rfl) (by kernel_rfl) (by kernel_rfl) (fun _ _ _ h => h) ?_ (by assumption) ?_
  rotate_left 1
  · first
      | (refine Or.inl ⟨by rfl, ?_⟩; intro w9 hSw; (try dsimp only at hSw); have e9_0 := Bel.keep hSw c0; have e9_1 := Bel.keep hSw c1; have e9_2 := Bel.keep hSw c2; have e9_3 := Bel.keep hSw c3; have e9_4 := Bel.keep hSw c4; have e9_5 := Bel.keep hSw c5; have e9_6 := Bel.keep hSw c6; have e9_7 := Bel.keep hSw c7; have e9_8 := Bel.keep hSw c8; have e9_9 := Bel.keep hSw c9; have e9_10 := Bel.keep hSw c10; go_simp; (try with_reducible rfl); done)
      | (refine Or.inr ⟨by rfl, ?_⟩; rfl)
  simp only [List.getElem_toArray, List.getElem_cons_succ, List.getElem_cons_zero, Act.put, List.setIfInBounds_toArray, List.set_cons_zero, List.set_cons_succ]
  refine wpAnyH_take (i := 18) (oi := _) (v := ?_) rfl (by kernel_rfl) (by kernel_rfl) (by kernel_rfl) (fun _ _ _ h => h) ?_ (by assumption) ?_
  rotate_left 1
  · first
      | (refine Or.inl ⟨by rfl, ?_⟩; intro w9 hSw; (try dsimp only at hSw); have e9_0 := Bel.keep hSw c0; have e9_1 := Bel.keep hSw c1; have e9_2 := Bel.keep hSw c2; have e9_3 := Bel.keep hSw c3; have e9_4 := Bel.keep hSw c4; have e9_5 := Bel.keep hSw c5; have e9_6 := Bel.keep hSw c6; have e9_7 := Bel.keep hSw c7; have e9_8 := Bel.keep hSw c8; have e9_9 := Bel.keep hSw c9; have e9_10 := Bel.keep hSw c10; go_simp; (try with_reducible rfl); done)
      | (refine Or.inr ⟨by rfl, ?_⟩; rfl)
  simp only [List.getElem_toArray, List.getElem_cons_succ, List.getElem_cons_zero, Act.put, List.setIfInBounds_toArray, List.set_cons_zero, List.set_cons_succ]
  refine wpAnyH_ready (rs := [19]) (by kernel_rfl) (by simp) ?_
  refine AllReadyH.cons (o := _) rfl (fun K hK => ?_) AllReadyH.nil
  go_simp
  go_at_call 17
  refine (HAA.out _ (HB4.out.trans hHeld)).mono ?_
  rintro e9 w9 ⟨rfl, hb9⟩
  dsimp only
  refine hK.out _ _ (hHeld.trans hb9) (fun hHeld => ?_)
  clear hK K hb9
  refine wpAnyH_take (i := 20) (oi := _) (v := ?_) rfl (by kernel_rfl) (by kernel_rfl) (by kernel_rfl) (fun _ _ _ h => h) ?_ (by assumption) ?_
  rotate_left 1
  · first
      | (refine Or.inl ⟨by rfl, ?_⟩; intro w9 hSw; (try dsimp only at hSw); go_simp; (try with_reducible rfl); done)
      | (refine Or.inr ⟨by rfl, ?_⟩; rfl)
  simp only [List.getElem_toArray, List.getElem_cons_succ, List.getElem_cons_zero, Act.put, List.setIfInBounds_toArray, List.set_cons_zero, List.set_cons_succ]
  refine wpAnyH_take (i := 21) (oi := _) (v := ?_) rfl (by kernel_rfl) (by kernel_rfl) (by kernel_rfl) (fun _ _ _ h => h) ?_ (by assumption) ?_
  rotate_left 1
  · first
      | (refine Or.inl ⟨by rfl, ?_⟩; intro w9 hSw; (try dsimp only at hSw); go_simp; (try with_reducible rfl); done)
      | (refine Or.inr ⟨by rfl, ?_⟩; rfl)
  simp only [List.getElem_toArray, List.getElem_cons_succ, List.getElem_cons_zero, Act.put, List.setIfInBounds_toArray, List.set_cons_zero, List.set_cons_succ]
  refine wpAnyH_done (by kernel_rfl) ?_ _
  go_wp2_with fail
  go_ret
  exact ⟨rfl, HB4.out.trans hHeld⟩
end Go.Proofs.YtchbhcjhoocjaaaGreatDoor
