/-
  The walk of the law LogicScopes: whatever the logic and the names: true.
-/
import Derived.Test.YtchbhcjhoocjaaaGreatDoorRLD
import Derived.Test.YtchbhcjhoocjaaaGreatDoorRLM
namespace Go.Proofs.YtchbhcjhoocjaaaGreatDoor
open Go.RowKit

set_option maxRecDepth 100000 in
set_option maxHeartbeats 16000000 in
theorem logicScopes_walk {w : World} (e : Lg) (q : LgQ) (he : LgAt w e q) (hbe : e.bulk ≤ 1048576) (v : Value) (l : List ByteArray) (hv : RowAt0 w v (strsV l)) (hm : sumS l ≤ 1048576) (hE : EnvX w ∧ PolAt w) :
    Calls Tryz.prog 6 #[lgV e q, v] w (RetBel (.bool true) w) := by
  have he' := he
  have HX := Lib.hid he'
  have HE := Lib.hid hE.1
  have HP := Lib.hid hE.2
  obtain ⟨nea, nen, nec, lea, len, lec, ia, im, ic, oa, om, oc, ra, rm, rc, na, nm, nc, la, lm, lc, rfl, ⟨him, hom, hrm, hnm, hlm⟩, ⟨hci, hco, hcr, hcn, hcl⟩, ⟨hbi, hbo, hbr, hbn, hbl⟩, hex, hpi, hpo, hpr, hpn, hpl⟩ := LgAt.opened he
  obtain ⟨va, vc, rfl, _⟩ := row0_form hv l.length (strsV_length l)
  have hln := len_sumS l
  unfold lgV
  dsimp only
  have HCK := Lib.hid (fun W (hW : Bel w W) => rcheck_lx e ⟨.slice nea nen nec, .slice lea len lec, .slice ia im ic, .slice oa om oc, .slice ra rm rc, .slice na nm nc, .slice la lm lc⟩ W (by omega) (LgAt.bel hW e he'))
  have HNW := Lib.hid (fun sl (L : List ByteArray) W (hW : Bel w W) (hv : RowAt0 W sl (strsV L)) (h1 : L.length ≤ 4294960000) (h2 : ∀ x ∈ L, x.size ≤ 4294967280) => new_c sl L W (HE.out.1.bel hW) hv h1 h2)
  have HRW := Lib.hid (fun W (hW : Bel w W) => rwith_c (.slice none 0 0) [] (.slice va l.length vc) l W srt_nil (.inl ⟨rfl, rfl⟩) (by simp) (hv.bel hW) (by omega) (fun x hx => by have := mem_sumS l x hx; omega))
  have HNV := Lib.hid (fun W (hW : Bel w W) => HNW.out (.slice va l.length vc) l W hW (hv.bel hW) (by omega) (fun x hx => by have := mem_sumS l x hx; omega))
  obtain ⟨c, hc⟩ : ∃ c, RCheckL e = c := ⟨_, rfl⟩
  rw [hc] at HCK
  have HC := Lib.hid hc
  obtain ⟨n, hn⟩ : ∃ n, l.length = n := ⟨_, rfl⟩
  rw [hn] at HRW HNV hln ⊢
  have HN := Lib.hid hn
  clear him hom hrm hnm hlm hex hpi hpo hpr hpn hpl he he' hv hE hc hn
  go_enter Tryz.func6, Tryz.ntmps6
  go_wp2_with fail
  obtain ⟨V1, h1, k1, l1, s1⟩ := alloc_step w 30 [.int .i64 e.k, .int .i64 e.e.k, .string e.e.s, .slice nea nen nec, .slice lea len lec, .string e.p, .slice ia im ic, .slice oa om oc, .slice ra rm rc, .slice na nm nc, .slice la lm lc]
  rw [h1]
  have BX := Lib.hid k1
  have HV := Lib.hid l1
  clear h1 k1 l1 s1
  refine (lalive_c _ (HE.out.bel HV.out) (HP.out.bel HV.out)).mono ?_
  rintro e1 w1 ⟨rfl, hb1⟩
  have c0 := hb1.keep (BX.out.at 0)
  have c1 := hb1.keep (BX.out.at 1)
  have c2 := hb1.keep (BX.out.at 2)
  have c3 := hb1.keep (BX.out.at 3)
  have c4 := hb1.keep (BX.out.at 4)
  have c5 := hb1.keep (BX.out.at 5)
  have c6 := hb1.keep (BX.out.at 6)
  have c7 := hb1.keep (BX.out.at 7)
  have c8 := hb1.keep (BX.out.at 8)
  have c9 := hb1.keep (BX.out.at 9)
  have c10 := hb1.keep (BX.out.at 10)
  have HB1 := Lib.hid (HV.out.trans hb1)
  clear hb1
  go_wp2_with fail
  obtain ⟨V3, h3, k3, l3, s3⟩ := alloc_step w1 30 [.int .i64 e.k, .int .i64 e.e.k, .string e.e.s, .slice nea nen nec, .slice lea len lec, .string e.p, .slice ia im ic, .slice oa om oc, .slice ra rm rc, .slice na nm nc, .slice la lm lc]
  rw [h3]
  have hb3 := HB1.out.trans l3
  have HG := Lib.hid (lgreat_c [e] (some ⟨w1.heap.size, 0, none⟩) 1 1 V3 rfl (by omega) (fun j x hx => by
    match j, hx with
    | 0, hx => cases hx; exact ⟨_, _, ⟨.slice nea nen nec, .slice lea len lec, .slice ia im ic, .slice oa om oc, .slice ra rm rc, .slice na nm nc, .slice la lm lc⟩, rfl, blk_cells k3, LgAt.bel hb3 e HX.out⟩
    | j + 1, hx => cases hx) (by intro x hx; rw [List.mem_singleton.1 hx]; omega))
  have e0 := l3.keep c0
  have e1 := l3.keep c1
  have e2 := l3.keep c2
  have e3 := l3.keep c3
  have e4 := l3.keep c4
  have e5 := l3.keep c5
  have e6 := l3.keep c6
  have e7 := l3.keep c7
  have e8 := l3.keep c8
  have e9 := l3.keep c9
  have e10 := l3.keep c10
  have HB3 := Lib.hid hb3
  clear h3 k3 l3 s3 hb3 c0 c1 c2 c3 c4 c5 c6 c7 c8 c9 c10
  refine HG.out.mono ?_
  rintro e4 w4 ⟨rfl, hb4⟩
  have c0 := hb4.keep e0
  have c1 := hb4.keep e1
  have c2 := hb4.keep e2
  have c3 := hb4.keep e3
  have c4 := hb4.keep e4
  have c5 := hb4.keep e5
  have c6 := hb4.keep e6
  have c7 := hb4.keep e7
  have c8 := hb4.keep e8
  have c9 := hb4.keep e9
  have c10 := hb4.keep e10
  have HB4 := Lib.hid (HB3.out.trans hb4)
  obtain ⟨g, hg⟩ : ∃ g, [e].any greatL = g := ⟨_, rfl⟩
  rw [hg]
  rw [List.any_cons, List.any_nil, Bool.or_false] at hg
  have HGR := Lib.hid hg
  clear e0 e1 e2 e3 e4 e5 e6 e7 e8 e9 e10 hb4 hg HG
  cases g with
  | true =>
    have h1 : oneIf true = 1 := rfl
    rw [h1]
    go_wp2_with fail
    refine (lalive_c _ (HE.out.bel HB4.out) (HP.out.bel HB4.out)).mono ?_
    rintro e5 w5 ⟨rfl, hb5⟩
    go_wp2_with fail
    go_ret
    exact ⟨rfl, HB4.out.trans hb5⟩
  | false =>
  have h1 : oneIf false = 0 := rfl
  rw [h1]
  have HGF := Lib.hid (greatL_false HGR.out)
  clear h1 HGR
  by_cases h100 : 100 < n
  · have h100i : (100 : Int) < n := by omega
    clear h100
    go_wp2_with fail
    refine (lalive_c _ (HE.out.bel HB4.out) (HP.out.bel HB4.out)).mono ?_
    rintro e9 w9 ⟨rfl, hb9⟩
    go_wp2_with fail
    go_ret
    exact ⟨rfl, HB4.out.trans hb9⟩
  have h100i : ¬ (100 : Int) < n := by omega
  go_wp2_with fail
  refine (HCK.out _ HB4.out).mono ?_
  rintro e5 w5 ⟨rfl, hb5⟩
  have HB5 := Lib.hid (HB4.out.trans hb5)
  have d0 := hb5.keep c0
  have d1 := hb5.keep c1
  have d2 := hb5.keep c2
  have d3 := hb5.keep c3
  have d4 := hb5.keep c4
  have d5 := hb5.keep c5
  have d6 := hb5.keep c6
  have d7 := hb5.keep c7
  have d8 := hb5.keep c8
  have d9 := hb5.keep c9
  have d10 := hb5.keep c10
  clear hb5 c0 c1 c2 c3 c4 c5 c6 c7 c8 c9 c10
  by_cases hc0 : ¬ c = 0
  · have hc2 : ((c : Int) == 0) = false := by simpa using hc0
    have hc3 : ((c : Int) != 0) = true := by simpa using hc0
    clear hc0
    go_wp2_with fail
    refine (lalive_c _ (HE.out.bel HB5.out) (HP.out.bel HB5.out)).mono ?_
    rintro e9 w9 ⟨rfl, hb9⟩
    go_wp2_with fail
    go_ret
    exact ⟨rfl, HB5.out.trans hb9⟩
  obtain rfl : c = 0 := by omega
  clear hc0
  have hok := RCheckL_ok HC.out
  have HSC := Lib.hid (fun M W (hW : Bel w W) p (hp : ScopeIs W p M) => scoped_l e.bulk e (Nat.le_refl _) (by omega) ⟨.slice nea nen nec, .slice lea len lec, .slice ia im ic, .slice oa om oc, .slice ra rm rc, .slice na nm nc, .slice la lm lc⟩ p M W hok (HE.out.bel hW) hp (LgAt.bel hW e HX.out))
  have HRS := Lib.hid (fun M v W (hW : Bel w W) (hs : Srt M) (hf : FitL e M) (hv : RowAt0 W v (strsV M)) => rscoped_l e.bulk e (Nat.le_refl _) hbe ⟨.slice nea nen nec, .slice lea len lec, .slice ia im ic, .slice oa om oc, .slice ra rm rc, .slice na nm nc, .slice la lm lc⟩ v M W hok hs hf (LgAt.bel hW e HX.out) hv)
  have HFX := Lib.hid (fun W (hW : Bel w W) => free_lx e ⟨.slice nea nen nec, .slice lea len lec, .slice ia im ic, .slice oa om oc, .slice ra rm rc, .slice na nm nc, .slice la lm lc⟩ W hok hbe (LgAt.bel hW e HX.out))
  have HRF := Lib.hid (fun W (hW : Bel w W) => rfree_l e.bulk e (Nat.le_refl _) HGF.out ⟨.slice nea nen nec, .slice lea len lec, .slice ia im ic, .slice oa om oc, .slice ra rm rc, .slice na nm nc, .slice la lm lc⟩ (.slice none 0 0) [] W hok srt_nil (fitL_of e [] HGF.out [] (by simp) (fun x hx => by cases hx)) (LgAt.bel hW e HX.out) (.inl ⟨rfl, rfl⟩))
  have hn100 : n ≤ 100 := by omega
  have HSAME := Lib.hid (fun M (h : withS [] l = (some M, 0)) => (by
    obtain ⟨h1, _, h3⟩ := with_got h
    have hf := fitL_of e M HGF.out l (by have := HN.out; omega) (fun x hx => .inl ((h3 x).1 hx))
    exact ⟨h1, hf, scopesL_same hok h1 hf⟩ : Srt M ∧ FitL e M ∧ rscL e M = scopedL e M))
  obtain ⟨F, hF⟩ : ∃ F, uniqS (freeL e []) = F := ⟨_, rfl⟩
  rw [hF] at HFX HRF
  have HFL : Hid (F.length ≤ 2000) := Lib.hid (by rw [← hF]; exact uniq_freeL_len e HGF.out)
  clear hok hF
  rcases withS_err (N := []) (l := l) (r := withS [] l) rfl with ⟨M, hM⟩ | ⟨c, hM, hcz⟩
  · obtain ⟨hs1, hf1, hsm⟩ := HSAME.out M hM
    have hnw := HNV.out w5 HB5.out
    rw [hM] at hnw
    have HN1 := Lib.hid hnw
    rw [hM] at HRW
    have HS1 := Lib.hid hs1
    have HF1 := Lib.hid hf1
    have HSM := Lib.hid hsm
    clear hnw hM HSAME HNV hs1 hf1 hsm
    go_wp2_with fail
    refine HN1.out.mono ?_
    rintro e7 w7 ⟨hb7, p7, rfl, hp7⟩
    obtain ⟨q7, rfl⟩ := scope_ptr hp7
    have HP7 := Lib.hid hp7
    have HB7 := Lib.hid (HB5.out.trans hb7)
    replace d0 := hb7.keep d0
    replace d1 := hb7.keep d1
    replace d2 := hb7.keep d2
    replace d3 := hb7.keep d3
    replace d4 := hb7.keep d4
    replace d5 := hb7.keep d5
    replace d6 := hb7.keep d6
    replace d7 := hb7.keep d7
    replace d8 := hb7.keep d8
    replace d9 := hb7.keep d9
    replace d10 := hb7.keep d10
    clear hb7 hp7 HN1
    go_wp2_with fail
    refine (HRW.out _ HB7.out).mono ?_
    rintro e8 w8 ⟨hb8, v8, rfl, hr8⟩
    have HP8 := Lib.hid (HP7.out.bel hb8)
    have HR8 := Lib.hid hr8
    have HB8 := Lib.hid (HB7.out.trans hb8)
    replace d0 := hb8.keep d0
    replace d1 := hb8.keep d1
    replace d2 := hb8.keep d2
    replace d3 := hb8.keep d3
    replace d4 := hb8.keep d4
    replace d5 := hb8.keep d5
    replace d6 := hb8.keep d6
    replace d7 := hb8.keep d7
    replace d8 := hb8.keep d8
    replace d9 := hb8.keep d9
    replace d10 := hb8.keep d10
    clear hb8 hr8 HRW HP7
    obtain ⟨S, hS⟩ : ∃ S, scopedL e M = S := ⟨_, rfl⟩
    have HS := Lib.hid hS
    have hss : ((S : Int) == S) = true := by simp
    clear hS
    go_wp2_with fail
    refine wp_region_held_drew (S := fun w' => Bel w8 w') (by kernel_rfl) (by (repeat (first | exact Bel.refl _ | assumption | refine Bel.to_drewN ?_ _ | refine Bel.to_drew ?_ | refine Bel.to_setCell ?_ (by first | exact Nat.le_refl _ | (simp; done) | (simp; omega) | omega) _ | refine Bel.to_alloc ?_ _ | refine Bel.trans ?_ (by assumption)))) (fun hHeld => ?_)
    refine tk 0 (v := ?_) ?_ ?_
    rotate_left 1
    · first
        | (refine Or.inl ⟨by rfl, ?_⟩; intro w9 hSw; have e9_0 := Bel.keep hSw d0; have e9_1 := Bel.keep hSw d1; have e9_2 := Bel.keep hSw d2; have e9_3 := Bel.keep hSw d3; have e9_4 := Bel.keep hSw d4; have e9_5 := Bel.keep hSw d5; have e9_6 := Bel.keep hSw d6; have e9_7 := Bel.keep hSw d7; have e9_8 := Bel.keep hSw d8; have e9_9 := Bel.keep hSw d9; have e9_10 := Bel.keep hSw d10; go_simp; (try with_reducible rfl); done)
        | (refine Or.inr ⟨by rfl, ?_⟩; rfl)
    simp only [List.getElem_toArray, List.getElem_cons_zero, Act.put, List.setIfInBounds_toArray, List.set_cons_zero, List.set_cons_succ]
    refine tk 1 (v := ?_) ?_ ?_
    rotate_left 1
    · first
        | (refine Or.inl ⟨by rfl, ?_⟩; intro w9 hSw; have e9_0 := Bel.keep hSw d0; have e9_1 := Bel.keep hSw d1; have e9_2 := Bel.keep hSw d2; have e9_3 := Bel.keep hSw d3; have e9_4 := Bel.keep hSw d4; have e9_5 := Bel.keep hSw d5; have e9_6 := Bel.keep hSw d6; have e9_7 := Bel.keep hSw d7; have e9_8 := Bel.keep hSw d8; have e9_9 := Bel.keep hSw d9; have e9_10 := Bel.keep hSw d10; go_simp; (try with_reducible rfl); done)
        | (refine Or.inr ⟨by rfl, ?_⟩; rfl)
    simp only [List.getElem_toArray, List.getElem_cons_succ, List.getElem_cons_zero, Act.put, List.setIfInBounds_toArray, List.set_cons_zero, List.set_cons_succ]
    refine tk 3 (v := ?_) ?_ ?_
    rotate_left 1
    · first
        | (refine Or.inl ⟨by rfl, ?_⟩; intro w9 hSw; have e9_0 := Bel.keep hSw d0; have e9_1 := Bel.keep hSw d1; have e9_2 := Bel.keep hSw d2; have e9_3 := Bel.keep hSw d3; have e9_4 := Bel.keep hSw d4; have e9_5 := Bel.keep hSw d5; have e9_6 := Bel.keep hSw d6; have e9_7 := Bel.keep hSw d7; have e9_8 := Bel.keep hSw d8; have e9_9 := Bel.keep hSw d9; have e9_10 := Bel.keep hSw d10; go_simp; (try with_reducible rfl); done)
        | (refine Or.inr ⟨by rfl, ?_⟩; rfl)
    simp only [List.getElem_toArray, List.getElem_cons_succ, List.getElem_cons_zero, Act.put, List.setIfInBounds_toArray, List.set_cons_zero, List.set_cons_succ]
    refine tk 4 (v := ?_) ?_ ?_
    rotate_left 1
    · first
        | (refine Or.inl ⟨by rfl, ?_⟩; intro w9 hSw; have e9_0 := Bel.keep hSw d0; have e9_1 := Bel.keep hSw d1; have e9_2 := Bel.keep hSw d2; have e9_3 := Bel.keep hSw d3; have e9_4 := Bel.keep hSw d4; have e9_5 := Bel.keep hSw d5; have e9_6 := Bel.keep hSw d6; have e9_7 := Bel.keep hSw d7; have e9_8 := Bel.keep hSw d8; have e9_9 := Bel.keep hSw d9; have e9_10 := Bel.keep hSw d10; go_simp; (try with_reducible rfl); done)
        | (refine Or.inr ⟨by rfl, ?_⟩; rfl)
    simp only [List.getElem_toArray, List.getElem_cons_succ, List.getElem_cons_zero, Act.put, List.setIfInBounds_toArray, List.set_cons_zero, List.set_cons_succ]
    refine wpAnyH_ready (rs := [2]) (by kernel_rfl) (by simp) ?_
    refine AllReadyH.cons (o := _) rfl (fun K hK => ?_) AllReadyH.nil
    go_simp
    go_at_call 21
    have hsc2 := HSC.out M _ (HB8.out.trans hHeld) _ (HP8.out.bel hHeld)
    rw [HS.out] at hsc2
    refine hsc2.mono ?_
    rintro e9 w9 ⟨rfl, hb9⟩
    dsimp only
    have hh9 := hHeld.trans hb9
    refine hK.out _ _ hh9 (fun hHeld => ?_)
    clear hK K hsc2
    refine wpAnyH_ready (rs := [5]) (by kernel_rfl) (by simp) ?_
    refine AllReadyH.cons (o := _) rfl (fun K hK => ?_) AllReadyH.nil
    go_simp
    go_at_call 22
    have hrs := HRS.out M v8 w9 (HB8.out.trans hh9) HS1.out HF1.out (HR8.out.bel hh9)
    rw [HSM.out, HS.out] at hrs
    refine hrs.mono ?_
    rintro e10 w10 ⟨rfl, hb10⟩
    dsimp only
    have hh10 := hh9.trans hb10
    refine hK.out _ _ hh10 (fun hHeld => ?_)
    clear hK K hrs
    refine tk 6 (v := ?_) ?_ ?_
    rotate_left 1
    · first
        | (refine Or.inl ⟨by rfl, ?_⟩; intro w9 hSw; go_simp; (try with_reducible rfl); done)
        | (refine Or.inr ⟨by rfl, ?_⟩; rfl)
    simp only [List.getElem_toArray, List.getElem_cons_succ, List.getElem_cons_zero, Act.put, List.setIfInBounds_toArray, List.set_cons_zero, List.set_cons_succ]
    refine tk 7 (v := ?_) ?_ ?_
    rotate_left 1
    · first
        | (refine Or.inl ⟨by rfl, ?_⟩; intro w9 hSw; go_simp; (try with_reducible rfl); done)
        | (refine Or.inr ⟨by rfl, ?_⟩; rfl)
    simp only [List.getElem_toArray, List.getElem_cons_succ, List.getElem_cons_zero, Act.put, List.setIfInBounds_toArray, List.set_cons_zero, List.set_cons_succ]
    refine tk 8 (v := ?_) ?_ ?_
    rotate_left 1
    · first
        | (refine Or.inl ⟨by rfl, ?_⟩; intro w9 hSw; have e9_0 := Bel.keep hSw d0; have e9_1 := Bel.keep hSw d1; have e9_2 := Bel.keep hSw d2; have e9_3 := Bel.keep hSw d3; have e9_4 := Bel.keep hSw d4; have e9_5 := Bel.keep hSw d5; have e9_6 := Bel.keep hSw d6; have e9_7 := Bel.keep hSw d7; have e9_8 := Bel.keep hSw d8; have e9_9 := Bel.keep hSw d9; have e9_10 := Bel.keep hSw d10; go_simp; (try with_reducible rfl); done)
        | (refine Or.inr ⟨by rfl, ?_⟩; rfl)
    simp only [List.getElem_toArray, List.getElem_cons_succ, List.getElem_cons_zero, Act.put, List.setIfInBounds_toArray, List.set_cons_zero, List.set_cons_succ]
    refine tk 10 (v := ?_) ?_ ?_
    rotate_left 1
    · first
        | (refine Or.inl ⟨by rfl, ?_⟩; intro w9 hSw; have e9_0 := Bel.keep hSw d0; have e9_1 := Bel.keep hSw d1; have e9_2 := Bel.keep hSw d2; have e9_3 := Bel.keep hSw d3; have e9_4 := Bel.keep hSw d4; have e9_5 := Bel.keep hSw d5; have e9_6 := Bel.keep hSw d6; have e9_7 := Bel.keep hSw d7; have e9_8 := Bel.keep hSw d8; have e9_9 := Bel.keep hSw d9; have e9_10 := Bel.keep hSw d10; go_simp; (try with_reducible rfl); done)
        | (refine Or.inr ⟨by rfl, ?_⟩; rfl)
    simp only [List.getElem_toArray, List.getElem_cons_succ, List.getElem_cons_zero, Act.put, List.setIfInBounds_toArray, List.set_cons_zero, List.set_cons_succ]
    refine wpAnyH_ready (rs := [9]) (by kernel_rfl) (by simp) ?_
    refine AllReadyH.cons (o := _) rfl (fun K hK => ?_) AllReadyH.nil
    go_simp
    go_at_call 12
    refine (HFX.out _ (HB8.out.trans hh10)).mono ?_
    rintro e11 w11 ⟨fa, fn, fc, rfl, hfn, hfr, hb11⟩
    dsimp only
    have hh11 := hh10.trans hb11
    refine hK.out _ _ hh11 (fun hHeld => ?_)
    clear hK K
    refine wpAnyH_ready (rs := [11]) (by kernel_rfl) (by simp) ?_
    refine AllReadyH.cons (o := _) rfl (fun K hK => ?_) AllReadyH.nil
    go_simp
    go_at_call 23
    refine (HRF.out _ (HB8.out.trans hh11)).mono ?_
    rintro e12 w12 ⟨ga, gn, gc, rfl, hgn, hgr, hb12⟩
    dsimp only
    have hh12 := hh11.trans hb12
    refine hK.out _ _ hh12 (fun hHeld => ?_)
    clear hK K
    refine wpAnyH_ready (rs := [12]) (by kernel_rfl) (by simp) ?_
    refine AllReadyH.cons (o := _) rfl (fun K hK => ?_) AllReadyH.nil
    go_simp
    go_at_call 16
    have hls := lsame_c F F fa ga fn fc gn gc w12 hfn hgn (by have := HFL.out; omega) (by have := HFL.out; omega) (names_of_row0 (hfr.bel hb12)).2.2 (names_of_row0 hgr).2.2
    rw [decide_eq_true rfl] at hls
    refine hls.mono ?_
    rintro e13 w13 ⟨rfl, hb13⟩
    dsimp only
    have hh13 := hh12.trans hb13
    refine hK.out _ _ hh13 (fun hHeld => ?_)
    clear hK K hls
    refine tk 13 (v := ?_) ?_ ?_
    rotate_left 1
    · first
        | (refine Or.inl ⟨by rfl, ?_⟩; intro w9 hSw; go_simp; (try with_reducible rfl); done)
        | (refine Or.inr ⟨by rfl, ?_⟩; rfl)
    simp only [List.getElem_toArray, List.getElem_cons_succ, List.getElem_cons_zero, Act.put, List.setIfInBounds_toArray, List.set_cons_zero, List.set_cons_succ]
    refine tk 14 (v := ?_) ?_ ?_
    rotate_left 1
    · first
        | (refine Or.inl ⟨by rfl, ?_⟩; intro w9 hSw; go_simp; (try with_reducible rfl); done)
        | (refine Or.inr ⟨by rfl, ?_⟩; rfl)
    simp only [List.getElem_toArray, List.getElem_cons_succ, List.getElem_cons_zero, Act.put, List.setIfInBounds_toArray, List.set_cons_zero, List.set_cons_succ]
    refine wpAnyH_done (by kernel_rfl) ?_ _
    have HH13 := Lib.hid (HB8.out.trans hh13)
    clear hHeld hh9 hh10 hh11 hh12 hh13 hb9 hb10 hb11 hb12 hb13 hfr hgr hfn hgn d0 d1 d2 d3 d4 d5 d6 d7 d8 d9 d10
    go_wp2_with fail
    go_ret
    exact ⟨rfl, HH13.out⟩
  · have hnw := HNV.out w5 HB5.out
    rw [hM] at hnw
    have HN1 := Lib.hid hnw
    have hc1 : ((c : Int) == 0) = false := by simp; omega
    have hc2 : ((c : Int) != 0) = true := by simp; omega
    clear hnw hM HSAME HNV HRW
    go_wp2_with fail
    refine HN1.out.mono ?_
    rintro e7 w7 ⟨hb7, rfl⟩
    have HB7 := Lib.hid (HB5.out.trans hb7)
    clear hb7 HN1
    go_wp2_with fail
    go_ret
    exact ⟨rfl, HB7.out⟩
end Go.Proofs.YtchbhcjhoocjaaaGreatDoor
