/-
  The walk of the law LogicFree: whatever the expression and the names: true.
-/
import Derived.Test.YtchbhcjhoocjaaaGreatDoorRLD
import Derived.Test.YtchbhcjhoocjaaaGreatDoorLGK
namespace Go.Proofs.YtchbhcjhoocjaaaGreatDoor
open Go.RowKit

theorem scoped_all {e : Lg} (hok : OkL e) (hb : e.bulk ≤ 5000) {O M : List ByteArray} (hO : O.length ≤ 200) (hM : Srt M) (hsub : ∀ x ∈ M, x ∈ O ∨ x ∈ freeL e []) (hall : ∀ x ∈ freeL e [], x ∈ M) : scopedL e M = 0 :=
  (scopedL_free e hok M hM (fitL_of e M hb O (by omega) fun x hx => (hsub x hx).imp id (freeL_tx e x))).zero.2 hall
theorem scoped_less {e : Lg} (hok : OkL e) (hb : e.bulk ≤ 5000) {M : List ByteArray} (hM : Srt M) (hsub : ∀ x ∈ M, x ∈ freeL e []) {z : ByteArray} (hz : z ∈ freeL e []) (hn : z ∉ M) : scopedL e M = 13 := by
  rcases scopedL_free e hok M hM (fitL_of e M hb [] (by simp) fun x hx => .inr (freeL_tx e x (hsub x hx))) with ⟨h, _⟩ | ⟨_, h⟩
  · exact absurd (h z hz) hn
  · exact h
theorem mem_namesB {x : ByteArray} : ∀ {l : List ByteArray}, x ∈ l → x.size + 1 ≤ namesB l
  | y :: r, h => by
    rw [namesB_cons]
    rcases List.mem_cons.1 h with rfl | h
    · omega
    · have := mem_namesB h
      omega
theorem freeL_size {e : Lg} {x : ByteArray} (h : x ∈ freeL e []) : x.size ≤ e.bulk := by
  have h1 := mem_namesB (freeL_tx e x h)
  have h2 := namesB_txL e
  omega
theorem with_nil {F : List ByteArray} (hr : ∀ x ∈ F, rightS x = true) (hn : F.length ≤ 4096) : withS [] F = (some (uniqS F), 0) := by
  have h1 := with_fine (A := []) (F := F) hr (by simpa using hn)
  unfold withS at h1 ⊢
  have h2 : F.all rightS = true := List.all_eq_true.2 hr
  have h3 : addS [] F = uniqS F := srt_ext (srt_addS _ srt_nil) (srt_uniqS _) fun x => by rw [mem_addS, mem_uniqS]; simp
  rw [if_neg (by rw [h2]; simp), h3, if_neg (by have := uniqS_len F; omega)]
theorem less_out {F : List ByteArray} (hn : F.Nodup) {j j1 : Nat} {z : ByteArray} (hz : F[j]? = some z) (hj : j1 = j + 1) : z ∉ F.take j ++ F.drop j1 := by
  subst hj
  obtain ⟨hl, hx⟩ := List.getElem?_eq_some_iff.1 hz
  have h1 : F = F.take j ++ z :: F.drop (j + 1) := by
    conv => lhs; rw [← List.take_append_drop j F, List.drop_eq_getElem_cons hl, hx]
  rw [h1] at hn
  have h2 := List.nodup_append.1 hn
  have h3 := List.nodup_cons.1 h2.2.1
  intro h
  rcases List.mem_append.1 h with h | h
  · exact h2.2.2 z h z (by simp) rfl
  · exact h3.1 h
theorem row_takeF {W : World} {b off fn fc j : Nat} {F : List ByteArray} (hn : F.length = fn) (hc : fn ≤ fc) (hb : b < W.heap.size) (hce : ∀ (i : Nat) (x : ByteArray), F[i]? = some x → W.cell? ⟨b, off + i, none⟩ = some (.string x)) (hj : j ≤ fn) :
    RowAt0 W (.slice (some ⟨b, off, none⟩) j fc) (strsV (F.take j)) := by
  have hl : (strsV (F.take j)).length = j := by rw [strsV_length, List.length_take]; omega
  refine .inr ⟨b, off, fc, by rw [hl], by rw [hl]; omega, hb, fun i hi => ?_⟩
  rw [hl] at hi
  have hF : F[i]? = some (F[i]'(by omega)) := List.getElem?_eq_getElem _
  rw [hce i _ hF]
  simp [strsV]
theorem row_dropF {W : World} {b off fn fc j : Nat} {F : List ByteArray} (hn : F.length = fn) (hc : fn ≤ fc) (hb : b < W.heap.size) (hce : ∀ (i : Nat) (x : ByteArray), F[i]? = some x → W.cell? ⟨b, off + i, none⟩ = some (.string x)) (hj : j ≤ fn) :
    RowAt0 W (.slice (if fc = j then some ⟨b, off, none⟩ else some ⟨b, off + j, none⟩) (fn - j) (fc - j)) (strsV (F.drop j)) := by
  have hl : (strsV (F.drop j)).length = fn - j := by rw [strsV_length, List.length_drop]; omega
  by_cases h : fc = j
  · rw [if_pos h]
    exact .inr ⟨b, off, fc - j, by rw [hl], by rw [hl]; omega, hb, fun i hi => by rw [hl] at hi; omega⟩
  · rw [if_neg h]
    refine .inr ⟨b, off + j, fc - j, by rw [hl], by rw [hl]; omega, hb, fun i hi => ?_⟩
    rw [hl] at hi
    have hF : F[j + i]? = some (F[j + i]'(by omega)) := List.getElem?_eq_getElem _
    have := hce (j + i) _ hF
    rw [← Nat.add_assoc] at this
    rw [this]
    simp [strsV]
theorem uniq_selfF {F : List ByteArray} (h : Srt F) : uniqS F = F := srt_ext (srt_uniqS _) h fun x => by rw [mem_uniqS]

set_option maxRecDepth 100000 in
set_option maxHeartbeats 8000000 in
theorem logicFree_walk {w : World} (e : Lg) (q : LgQ) (he : LgAt w e q) (hbe : e.bulk ≤ 1048576) (v : Value) (l : List ByteArray) (hv : RowAt0 w v (strsV l)) (hm : sumS l ≤ 1048576) (hE : EnvX w ∧ PolAt w) :
    Calls Tryz.prog 7 #[lgV e q, v] w (RetBel (.bool true) w) := by
  have he' := he
  have HX := Lib.hid he'
  have HE := Lib.hid hE.1
  have HP := Lib.hid hE.2
  obtain ⟨nea, nen, nec, lea, len, lec, ia, im, ic, oa, om, oc, ra, rm, rc, na, nm, nc, la, lm, lc, rfl, ⟨him, hom, hrm, hnm, hlm⟩, ⟨hci, hco, hcr, hcn, hcl⟩, ⟨hbi, hbo, hbr, hbn, hbl⟩, hex, hpi, hpo, hpr, hpn, hpl⟩ := LgAt.opened he
  obtain ⟨va, vc, rfl, _⟩ := row0_form hv l.length (strsV_length l)
  have hln := len_sumS l
  unfold lgV
  dsimp only
  have HCK := Lib.hid (fun W (hW : Bel w W) => check_lx e ⟨.slice nea nen nec, .slice lea len lec, .slice ia im ic, .slice oa om oc, .slice ra rm rc, .slice na nm nc, .slice la lm lc⟩ W (HE.out.bel hW) (HP.out.bel hW) (by omega) (LgAt.bel hW e he'))
  have HNW := Lib.hid (fun sl (L : List ByteArray) W (hW : Bel w W) (hv : RowAt0 W sl (strsV L)) (h1 : L.length ≤ 4294960000) (h2 : ∀ x ∈ L, x.size ≤ 4294967280) => new_c sl L W (HE.out.1.bel hW) hv h1 h2)
  have HWT := Lib.hid (fun p N W (hW : Bel w W) (hp : ScopeIs W p N) => with_c p N _ l W (HE.out.1.bel hW) hp (hv.bel hW) (by omega) (fun x hx => by have := mem_sumS l x hx; omega))
  obtain ⟨c, hc⟩ : ∃ c, CheckL e = c := ⟨_, rfl⟩
  rw [hc] at HCK
  have HC := Lib.hid hc
  obtain ⟨n, hn⟩ : ∃ n, l.length = n := ⟨_, rfl⟩
  rw [hn] at HWT hln ⊢
  have HN := Lib.hid hn
  clear him hom hrm hnm hlm hex hpi hpo hpr hpn hpl he he' hv hE hc hn
  go_enter Tryz.func7, Tryz.ntmps7
  go_wp2_with fail
  obtain ⟨V1, h1, k1, l1, s1⟩ := alloc_step w 30 [.int .i64 e.k, .int .i64 e.e.k, .string e.e.s, .slice nea nen nec, .slice lea len lec, .string e.p, .slice ia im ic, .slice oa om oc, .slice ra rm rc, .slice na nm nc, .slice la lm lc]
  rw [h1]
  have BX := Lib.hid k1
  have HV := Lib.hid l1
  clear h1 k1 l1 s1
  refine (lalive_c _ (HE.out.bel HV.out) (HP.out.bel HV.out)).mono ?_
  rintro e1 w1 ⟨rfl, hb1⟩
  have c0 := hb1.keep (BX.out.at 0)
  have c1 := hb1.keep (BX.out.at 1)
  have c2 := hb1.keep (BX.out.at 2)
  have c3 := hb1.keep (BX.out.at 3)
  have c4 := hb1.keep (BX.out.at 4)
  have c5 := hb1.keep (BX.out.at 5)
  have c6 := hb1.keep (BX.out.at 6)
  have c7 := hb1.keep (BX.out.at 7)
  have c8 := hb1.keep (BX.out.at 8)
  have c9 := hb1.keep (BX.out.at 9)
  have c10 := hb1.keep (BX.out.at 10)
  have HB1 := Lib.hid (HV.out.trans hb1)
  clear hb1
  go_wp2_with fail
  obtain ⟨V3, h3, k3, l3, s3⟩ := alloc_step w1 30 [.int .i64 e.k, .int .i64 e.e.k, .string e.e.s, .slice nea nen nec, .slice lea len lec, .string e.p, .slice ia im ic, .slice oa om oc, .slice ra rm rc, .slice na nm nc, .slice la lm lc]
  rw [h3]
  have hb3 := HB1.out.trans l3
  have HG := Lib.hid (lgreat_c [e] (some ⟨w1.heap.size, 0, none⟩) 1 1 V3 rfl (by omega) (fun j x hx => by
    match j, hx with
    | 0, hx => cases hx; exact ⟨_, _, ⟨.slice nea nen nec, .slice lea len lec, .slice ia im ic, .slice oa om oc, .slice ra rm rc, .slice na nm nc, .slice la lm lc⟩, rfl, blk_cells k3, LgAt.bel hb3 e HX.out⟩
    | j + 1, hx => cases hx) (by intro x hx; rw [List.mem_singleton.1 hx]; omega))
  have e0 := l3.keep c0
  have e1 := l3.keep c1
  have e2 := l3.keep c2
  have e3 := l3.keep c3
  have e4 := l3.keep c4
  have e5 := l3.keep c5
  have e6 := l3.keep c6
  have e7 := l3.keep c7
  have e8 := l3.keep c8
  have e9 := l3.keep c9
  have e10 := l3.keep c10
  have HB3 := Lib.hid hb3
  clear h3 k3 l3 s3 hb3 c0 c1 c2 c3 c4 c5 c6 c7 c8 c9 c10
  refine HG.out.mono ?_
  rintro e4 w4 ⟨rfl, hb4⟩
  have c0 := hb4.keep e0
  have c1 := hb4.keep e1
  have c2 := hb4.keep e2
  have c3 := hb4.keep e3
  have c4 := hb4.keep e4
  have c5 := hb4.keep e5
  have c6 := hb4.keep e6
  have c7 := hb4.keep e7
  have c8 := hb4.keep e8
  have c9 := hb4.keep e9
  have c10 := hb4.keep e10
  have HB4 := Lib.hid (HB3.out.trans hb4)
  obtain ⟨g, hg⟩ : ∃ g, [e].any greatL = g := ⟨_, rfl⟩
  rw [hg]
  rw [List.any_cons, List.any_nil, Bool.or_false] at hg
  have HGR := Lib.hid hg
  clear e0 e1 e2 e3 e4 e5 e6 e7 e8 e9 e10 hb4 hg HG
  cases g with
  | true =>
    have h1 : oneIf true = 1 := rfl
    rw [h1]
    go_wp2_with fail
    refine (lalive_c _ (HE.out.bel HB4.out) (HP.out.bel HB4.out)).mono ?_
    rintro e5 w5 ⟨rfl, hb5⟩
    go_wp2_with fail
    go_ret
    exact ⟨rfl, HB4.out.trans hb5⟩
  | false =>
  have h1 : oneIf false = 0 := rfl
  rw [h1]
  have HGF := Lib.hid (greatL_false HGR.out)
  clear h1 HGR
  by_cases h50 : 50 < n
  · have h50i : (50 : Int) < n := by omega
    clear h50
    go_wp2_with fail
    refine (lalive_c _ (HE.out.bel HB4.out) (HP.out.bel HB4.out)).mono ?_
    rintro e9 w9 ⟨rfl, hb9⟩
    go_wp2_with fail
    go_ret
    exact ⟨rfl, HB4.out.trans hb9⟩
  have h50i : ¬ (50 : Int) < n := by omega
  go_wp2_with fail
  refine (HCK.out _ HB4.out).mono ?_
  rintro e5 w5 ⟨rfl, hb5⟩
  have HB5 := Lib.hid (HB4.out.trans hb5)
  have d0 := hb5.keep c0
  have d1 := hb5.keep c1
  have d2 := hb5.keep c2
  have d3 := hb5.keep c3
  have d4 := hb5.keep c4
  have d5 := hb5.keep c5
  have d6 := hb5.keep c6
  have d7 := hb5.keep c7
  have d8 := hb5.keep c8
  have d9 := hb5.keep c9
  have d10 := hb5.keep c10
  clear hb5 c0 c1 c2 c3 c4 c5 c6 c7 c8 c9 c10
  by_cases hc0 : ¬ c = 0
  · have hc2 : ((c : Int) == 0) = false := by simpa using hc0
    have hc3 : ((c : Int) != 0) = true := by simpa using hc0
    clear hc0
    go_wp2_with fail
    refine (lalive_c _ (HE.out.bel HB5.out) (HP.out.bel HB5.out)).mono ?_
    rintro e9 w9 ⟨rfl, hb9⟩
    go_wp2_with fail
    go_ret
    exact ⟨rfl, HB5.out.trans hb9⟩
  obtain rfl : c = 0 := by omega
  clear hc0
  have hok := CheckL_ok HC.out
  have HFX := Lib.hid (fun W (hW : Bel w W) => free_lx e ⟨.slice nea nen nec, .slice lea len lec, .slice ia im ic, .slice oa om oc, .slice ra rm rc, .slice na nm nc, .slice la lm lc⟩ W hok hbe (LgAt.bel hW e HX.out))
  have HSC := Lib.hid (fun M W (hW : Bel w W) p (hp : ScopeIs W p M) => scoped_l e.bulk e (Nat.le_refl _) (by omega) ⟨.slice nea nen nec, .slice lea len lec, .slice ia im ic, .slice oa om oc, .slice ra rm rc, .slice na nm nc, .slice la lm lc⟩ p M W hok (HE.out.bel hW) hp (LgAt.bel hW e HX.out))
  obtain ⟨F, hF⟩ : ∃ F, uniqS (freeL e []) = F := ⟨_, rfl⟩
  have hFs : Srt F := by rw [← hF]; exact srt_uniqS _
  have hFm : ∀ x, x ∈ F ↔ x ∈ freeL e [] := fun x => by rw [← hF, mem_uniqS]
  have hFr : ∀ x ∈ F, rightS x = true := fun x hx => freeL_right e hok x ((hFm x).1 hx)
  have hFl : F.length ≤ 2000 := by rw [← hF]; exact uniq_freeL_len e HGF.out
  have hFz : ∀ x ∈ F, x.size ≤ 4294967280 := fun x hx => by have := freeL_size ((hFm x).1 hx); omega
  have hw0 : withS [] F = (some F, 0) := by rw [with_nil hFr (by omega), uniq_selfF hFs]
  have hs0 : scopedL e F = 0 := scoped_all hok HGF.out (O := []) (by simp) hFs (fun x hx => .inr ((hFm x).1 hx)) (fun x hx => (hFm x).2 hx)
  have HF := Lib.hid hF
  rw [hF] at HFX
  have HFS := Lib.hid hFs
  have HFM := Lib.hid hFm
  have HFRT := Lib.hid hFr
  have HFL := Lib.hid hFl
  have HFZ := Lib.hid hFz
  have HW0 := Lib.hid hw0
  have HS0 := Lib.hid hs0
  have HOK := Lib.hid hok
  clear hok hF hFs hFm hFr hFz hw0 hs0
  go_wp2_with fail
  refine (HFX.out _ HB5.out).mono ?_
  rintro e6 w6 ⟨fa, fn, fc, rfl, hfn, hfr, hb6⟩
  have hnw := HNW.out _ F w6 (HB5.out.trans hb6) hfr (by omega) HFZ.out
  rw [HW0.out] at hnw
  have HN1 := Lib.hid hnw
  have HFN := Lib.hid hfn
  have HFR := Lib.hid hfr
  have HB6 := Lib.hid (HB5.out.trans hb6)
  have hfn2 : fn ≤ 2000 := by omega
  replace d0 := hb6.keep d0
  replace d1 := hb6.keep d1
  replace d2 := hb6.keep d2
  replace d3 := hb6.keep d3
  replace d4 := hb6.keep d4
  replace d5 := hb6.keep d5
  replace d6 := hb6.keep d6
  replace d7 := hb6.keep d7
  replace d8 := hb6.keep d8
  replace d9 := hb6.keep d9
  replace d10 := hb6.keep d10
  clear hb6 hfn hfr hnw
  go_wp2_with fail
  refine HN1.out.mono ?_
  rintro e7 w7 ⟨hb7, p7, rfl, hp7⟩
  obtain ⟨q7, rfl⟩ := scope_ptr hp7
  have hsc := HSC.out F w7 (HB6.out.trans hb7) _ hp7
  rw [HS0.out] at hsc
  have HSC1 := Lib.hid hsc
  have HP7 := Lib.hid hp7
  have HFR7 := Lib.hid (HFR.out.bel hb7)
  have HB7 := Lib.hid (HB6.out.trans hb7)
  replace d0 := hb7.keep d0
  replace d1 := hb7.keep d1
  replace d2 := hb7.keep d2
  replace d3 := hb7.keep d3
  replace d4 := hb7.keep d4
  replace d5 := hb7.keep d5
  replace d6 := hb7.keep d6
  replace d7 := hb7.keep d7
  replace d8 := hb7.keep d8
  replace d9 := hb7.keep d9
  replace d10 := hb7.keep d10
  clear hb7 hp7 hsc HN1 HFR
  go_wp2_with fail
  refine HSC1.out.mono ?_
  rintro e8 w8 ⟨rfl, hb8⟩
  have hwt := HWT.out _ F w8 (HB7.out.trans hb8) (HP7.out.bel hb8)
  have HFR8 := Lib.hid (HFR7.out.bel hb8)
  have HB8 := Lib.hid (HB7.out.trans hb8)
  replace d0 := hb8.keep d0
  replace d1 := hb8.keep d1
  replace d2 := hb8.keep d2
  replace d3 := hb8.keep d3
  replace d4 := hb8.keep d4
  replace d5 := hb8.keep d5
  replace d6 := hb8.keep d6
  replace d7 := hb8.keep d7
  replace d8 := hb8.keep d8
  replace d9 := hb8.keep d9
  replace d10 := hb8.keep d10
  clear hb8 HFR7 HSC1
  go_upto_region 7 with fail
  go_cut [8, 9] (fun v8 v9 wx => ∃ p g, v8 = .pointer p ∧ v9 = .int .i64 g ∧ Bel w8 wx ∧ (g = 0 → ∃ M, ScopeIs wx (.pointer p) M ∧ scopedL e M = 0))
  case first =>
    rcases withS_err (N := F) (l := l) (r := withS F l) rfl with ⟨M, hM⟩ | ⟨c, hM, hcz⟩
    · have hMM : Srt M ∧ ∀ x, x ∈ M ↔ x ∈ F ∨ x ∈ l := by
        unfold withS at hM
        split at hM
        · cases hM
        · split at hM
          · cases hM
          · injection hM with h _
            injection h with h
            subst h
            exact ⟨srt_addS _ HFS.out, fun x => by rw [mem_addS]⟩
      have hs1 : scopedL e M = 0 := scoped_all HOK.out HGF.out (O := l) (by have := HN.out; omega) hMM.1 (fun x hx => ((hMM.2 x).1 hx).symm.imp id (fun h => (HFM.out x).1 h)) (fun x hx => (hMM.2 x).2 (.inl ((HFM.out x).2 hx)))
      rw [hM] at hwt
      have HWT1 := Lib.hid hwt
      have HS1 := Lib.hid hs1
      clear hwt hs1 hMM hM
      go_wp2_with fail
      refine HWT1.out.mono ?_
      rintro e9 w9 ⟨hb9, p9, rfl, hp9⟩
      obtain ⟨q9, rfl⟩ := scope_ptr hp9
      have HP9 := Lib.hid hp9
      have HB9 := Lib.hid hb9
      clear hb9 hp9
      go_wp2_with fail
      go_meet
      exact ⟨_, _, rfl, rfl, HB9.out, fun _ => ⟨M, HP9.out, HS1.out⟩⟩
    · rw [hM] at hwt
      have HWT1 := Lib.hid hwt
      have HCZ := Lib.hid (Lib.hid (show ¬ ((c : Int) = 0) by omega))
      clear hwt hM hcz
      go_wp2_with fail
      refine HWT1.out.mono ?_
      rintro e9 w9 ⟨hb9, rfl⟩
      go_wp2_with fail
      go_meet
      exact ⟨_, _, rfl, rfl, hb9, fun h => (HCZ.out.out h).elim⟩
  case rest =>
  obtain ⟨p9, g9, rfl, rfl, hb9, hg9⟩ := hcut
  generalize wc = w9 at hb9 hg9 ⊢
  have HG9 := Lib.hid hg9
  have HB9 := Lib.hid (HB8.out.trans hb9)
  have HFR9 := Lib.hid (HFR8.out.bel hb9)
  replace d0 := hb9.keep d0
  replace d1 := hb9.keep d1
  replace d2 := hb9.keep d2
  replace d3 := hb9.keep d3
  replace d4 := hb9.keep d4
  replace d5 := hb9.keep d5
  replace d6 := hb9.keep d6
  replace d7 := hb9.keep d7
  replace d8 := hb9.keep d8
  replace d9 := hb9.keep d9
  replace d10 := hb9.keep d10
  clear hwt hb9 hg9 HFR8 HP7
  go_upto_region 8 with fail
  go_cut [60] (fun v wx => v = .bool false ∧ Bel w9 wx)
  case first =>
    by_cases hg0 : g9 = 0
    · subst hg0
      obtain ⟨M, hpM, hsM⟩ := HG9.out rfl
      have hsc := HSC.out M w9 HB9.out _ hpM
      rw [hsM] at hsc
      have HSM := Lib.hid hsc
      clear hsc hpM hsM
      go_wp2_with fail
      refine HSM.out.mono ?_
      rintro e10 w10 ⟨rfl, hb10⟩
      go_wp2_with fail
      go_meet
      exact ⟨rfl, hb10⟩
    · have hg1 : (g9 == 0) = false := by simpa using hg0
      clear hg0
      go_wp2_with fail
      go_meet
      exact ⟨rfl, Bel.refl _⟩
  case rest =>
  obtain ⟨rfl, hbc⟩ := hcut
  generalize wc = wA at hbc ⊢
  have HBA := Lib.hid (HB9.out.trans hbc)
  have HFRA := Lib.hid (HFR9.out.bel hbc)
  have D0 := Lib.hid (hbc.keep d0)
  have D1 := Lib.hid (hbc.keep d1)
  have D2 := Lib.hid (hbc.keep d2)
  have D3 := Lib.hid (hbc.keep d3)
  have D4 := Lib.hid (hbc.keep d4)
  have D5 := Lib.hid (hbc.keep d5)
  have D6 := Lib.hid (hbc.keep d6)
  have D7 := Lib.hid (hbc.keep d7)
  have D8 := Lib.hid (hbc.keep d8)
  have D9 := Lib.hid (hbc.keep d9)
  have D10 := Lib.hid (hbc.keep d10)
  clear hbc d0 d1 d2 d3 d4 d5 d6 d7 d8 d9 d10 HG9 HFR9
  go_wp2_with fail
  go_loopw [63] (fun i wr => ∃ j : Nat, j ≤ fn ∧ i = .int .i64 j ∧ Bel wA wr) (fun i _ => fn - (intOf i).toNat)
  case atStart => exact ⟨0, Nat.zero_le _, rfl, Bel.refl _⟩
  case round =>
    obtain ⟨j, hj, rfl, hbel⟩ := hrel
    have HBL := Lib.hid hbel
    have HBW := Lib.hid (HBA.out.trans hbel)
    have hrow := HFRA.out.bel hbel
    by_cases hlt : j < fn
    · have HLT := Lib.hid hlt
      have hlti : (j : Int) < fn := by omega
      rcases hrow with ⟨h0, h1⟩ | ⟨b, off, cap, h0, hcap, hlb, hce⟩
      · exfalso
        injection h0 with _ h0 _
        omega
      · injection h0 with h1 h2 h3
        subst h1 h3
        have HH2 := Lib.hid h2
        have HLB := Lib.hid hlb
        have HCE := Lib.hid (fun (i : Nat) (x : ByteArray) (hx : F[i]? = some x) => (by obtain ⟨hi, hx2⟩ := List.getElem?_eq_some_iff.1 hx; rw [hce i (by rw [strsV_length]; exact hi)]; simp [strsV, hx2] : wr.cell? ⟨b, off + i, none⟩ = some (.string x)))
        have g1 : (0 : Int) ≤ j := by omega
        have g2 : (j : Int) ≤ fc := by rw [strsV_length] at hcap; have := HFN.out; omega
        have g3 : (j : Int) + 1 ≤ fn := by omega
        have g6 : (fn : Int) ≤ fc := by rw [strsV_length] at hcap; have := HFN.out; omega
        obtain ⟨j1, hj1⟩ : ∃ j1 : Nat, j1 = j + 1 := ⟨_, rfl⟩
        have g4 : IntKind.i64.wrap ((j : Int) + 1) = (j1 : Int) := (IntWalk.i64_in _ (by omega)).trans (by omega)
        have g7 : (j1 : Int) ≤ fn := by omega
        have g8 : (0 : Int) ≤ j1 := by omega
        have g9' : (j1 : Int) ≤ fc := by omega
        have HJ1 := Lib.hid hj1
        clear hj1
        have g5 : (0 : Int) ≤ (j : Int) + 1 := by omega
        have c0 := hbel.keep D0.out
        have c1 := hbel.keep D1.out
        have c2 := hbel.keep D2.out
        have c3 := hbel.keep D3.out
        have c4 := hbel.keep D4.out
        have c5 := hbel.keep D5.out
        have c6 := hbel.keep D6.out
        have c7 := hbel.keep D7.out
        have c8 := hbel.keep D8.out
        have c9 := hbel.keep D9.out
        have c10 := hbel.keep D10.out
        have hFN2 := HFN.out
        have hfc2 : fn ≤ fc := by omega
        clear hbel h2 hce hlb hcap
        go_wp2_with fail
        refine wp_region_held_drew (S := fun w' => Bel wr w') (by kernel_rfl) (by (repeat (first | exact Bel.refl _ | assumption | refine Bel.to_drewN ?_ _ | refine Bel.to_drew ?_ | refine Bel.to_setCell ?_ (by first | exact Nat.le_refl _ | (simp; done) | (simp; omega) | omega) _ | refine Bel.to_alloc ?_ _ | refine Bel.trans ?_ (by assumption)))) (fun hHeld => ?_)
        obtain ⟨V0, hV0⟩ : ∃ W, wr.drew = W := ⟨_, rfl⟩
        have hb0 : Bel wr V0 := by rw [← hV0]; exact Bel.drew _
        rw [hV0] at hHeld ⊢
        clear hV0
        have HRT := Lib.hid (row_takeF (j := j) hFN2 hfc2 HLB.out HCE.out (by omega))
        have HRD := Lib.hid (row_dropF (j := j1) hFN2 hfc2 HLB.out HCE.out (by have := HJ1.out; omega))
        obtain ⟨sa, hsa⟩ : ∃ a : Option Addr, (if fc = j1 then some ⟨b, off, none⟩ else some ⟨b, off + j1, none⟩) = a := ⟨_, rfl⟩
        rw [hsa] at HRD
        refine wpAnyH_take (i := 1) (oi := _) (v := ?_) rfl (by kernel_rfl) (by kernel_rfl) (by kernel_rfl) (fun _ _ _ h => h) ?_ (by assumption) ?_
        rotate_left 1
        · first
            | (refine Or.inl ⟨by rfl, ?_⟩; intro w9 hSw; (try dsimp only at hSw); go_simp; (try with_reducible rfl); done)
            | (refine Or.inr ⟨by rfl, ?_⟩; rfl)
        simp only [List.getElem_toArray, List.getElem_cons_succ, List.getElem_cons_zero, Act.put, List.setIfInBounds_toArray, List.set_cons_zero, List.set_cons_succ]
        refine wpAnyH_take (i := 2) (oi := _) (v := ?_) rfl (by kernel_rfl) (by kernel_rfl) (by kernel_rfl) (fun _ _ _ h => h) ?_ (by assumption) ?_
        rotate_left 1
        · first
            | (refine Or.inl ⟨by rfl, ?_⟩; intro w9 hSw; (try dsimp only at hSw); go_simp; (try with_reducible rfl); done)
            | (refine Or.inr ⟨by rfl, ?_⟩; rfl)
        simp only [List.getElem_toArray, List.getElem_cons_succ, List.getElem_cons_zero, Act.put, List.setIfInBounds_toArray, List.set_cons_zero, List.set_cons_succ]
        refine wpAnyH_take (i := 3) (oi := _) (v := ?_) rfl (by kernel_rfl) (by kernel_rfl) (by kernel_rfl) (fun _ _ _ h => h) ?_ (by assumption) ?_
        rotate_left 1
        · first
            | (refine Or.inl ⟨by rfl, ?_⟩; intro w9 hSw; (try dsimp only at hSw); go_simp; (try with_reducible rfl); done)
            | (refine Or.inr ⟨by rfl, ?_⟩; rfl)
        simp only [List.getElem_toArray, List.getElem_cons_succ, List.getElem_cons_zero, Act.put, List.setIfInBounds_toArray, List.set_cons_zero, List.set_cons_succ]
        refine wpAnyH_take (i := 5) (oi := _) (v := ?_) rfl (by kernel_rfl) (by kernel_rfl) (by kernel_rfl) (fun _ _ _ h => h) ?_ (by assumption) ?_
        rotate_left 1
        · first
            | (refine Or.inl ⟨by rfl, ?_⟩; intro w9 hSw; (try dsimp only at hSw); go_simp; (try with_reducible rfl); done)
            | (refine Or.inr ⟨by rfl, ?_⟩; rfl)
        simp only [List.getElem_toArray, List.getElem_cons_succ, List.getElem_cons_zero, Act.put, List.setIfInBounds_toArray, List.set_cons_zero, List.set_cons_succ]
        refine wpAnyH_take (i := 6) (oi := _) (v := ?_) rfl (by kernel_rfl) (by kernel_rfl) (by kernel_rfl) (fun _ _ _ h => h) ?_ (by assumption) ?_
        rotate_left 1
        · first
            | (refine Or.inl ⟨by rfl, ?_⟩; intro w9 hSw; (try dsimp only at hSw); go_simp; (try with_reducible rfl); done)
            | (refine Or.inr ⟨by rfl, ?_⟩; rfl)
        simp only [List.getElem_toArray, List.getElem_cons_succ, List.getElem_cons_zero, Act.put, List.setIfInBounds_toArray, List.set_cons_zero, List.set_cons_succ]
        refine wpAnyH_take (i := 7) (oi := _) (v := ?_) rfl (by kernel_rfl) (by kernel_rfl) (by kernel_rfl) (fun _ _ _ h => h) ?_ (by assumption) ?_
        rotate_left 1
        · first
            | (refine Or.inl ⟨by rfl, ?_⟩; intro w9 hSw; (try dsimp only at hSw); go_simp; (try with_reducible rfl); done)
            | (refine Or.inr ⟨by rfl, ?_⟩; rfl)
        simp only [List.getElem_toArray, List.getElem_cons_succ, List.getElem_cons_zero, Act.put, List.setIfInBounds_toArray, List.set_cons_zero, List.set_cons_succ]
        refine wpAnyH_take (i := 8) (oi := _) (v := ?_) rfl (by kernel_rfl) (by kernel_rfl) (by kernel_rfl) (fun _ _ _ h => h) ?_ (by assumption) ?_
        rotate_left 1
        · first
            | (refine Or.inl ⟨by rfl, ?_⟩; intro w9 hSw; (try dsimp only at hSw); go_simp; (try with_reducible rfl); done)
            | (refine Or.inr ⟨by rfl, ?_⟩; rfl)
        simp only [List.getElem_toArray, List.getElem_cons_succ, List.getElem_cons_zero, Act.put, List.setIfInBounds_toArray, List.set_cons_zero, List.set_cons_succ]
        clear hsa
        refine wpAnyH_ready (rs := [0]) (by kernel_rfl) (by simp) ?_
        refine AllReadyH.cons (o := _) rfl (fun K hK => ?_) AllReadyH.nil
        go_simp
        have hb1 : Bel wr (V0.alloc (.cells #[] 9)) := hb0.to_alloc _
        refine hK.out _ _ hb1 (fun hHeld => ?_)
        clear hK K
        have own0 := own_fresh V0 9 V0.heap.size (Nat.le_refl _)
        refine wpAnyH_ready (rs := [4]) (by kernel_rfl) (by simp) ?_
        refine AllReadyH.cons (o := _) rfl (fun K hK => ?_) AllReadyH.nil
        rw [if_pos (by rfl)]
        refine wp_appendS _ _ rfl V0.heap.size (by rw [World.size_alloc]; omega) (.slice (some ⟨V0.heap.size, 0, none⟩) 0 0) 0 [] rfl own0 _ (F.take j) rfl (HRT.out.bel hb1) (by rw [List.length_take]; omega) (fun v2 w2 hown2 hg2 => ?_)
        have hb2v : Bel V0 w2 := own_grown own0 (Bel.alloc _ _) hg2 (Nat.le_refl _)
        have hb2 := hb0.trans hb2v
        refine hK.out _ _ hb2 (fun hHeld => ?_)
        clear hK K
        simp only [List.getElem_toArray, List.getElem_cons_succ, List.getElem_cons_zero, Act.put, List.setIfInBounds_toArray, List.set_cons_zero, List.set_cons_succ]
        refine wpAnyH_ready (rs := [9]) (by kernel_rfl) (by simp) ?_
        refine AllReadyH.cons (o := _) rfl (fun K hK => ?_) AllReadyH.nil
        rw [if_pos (by rfl)]
        refine wp_appendS _ _ rfl V0.heap.size hb2v.size v2 _ _ rfl hown2 _ (F.drop j1) rfl (HRD.out.bel hb2) (by rw [List.length_take, List.length_drop]; omega) (fun v3 w3 hown3 hg3 => ?_)
        have hb3v : Bel V0 w3 := own_grown hown2 hb2v hg3 (Nat.le_refl _)
        have hb3 := hb0.trans hb3v
        refine hK.out _ _ hb3 (fun hHeld => ?_)
        clear hK K
        simp only [List.getElem_toArray, List.getElem_cons_succ, List.getElem_cons_zero, Act.put, List.setIfInBounds_toArray, List.set_cons_zero, List.set_cons_succ]
        have hr3 := own_row hown3
        rw [List.nil_append, show strsV (F.take j) ++ strsV (F.drop j1) = strsV (F.take j ++ F.drop j1) from by simp [strsV]] at hr3
        obtain ⟨z, hz⟩ : ∃ z, F[j]? = some z := ⟨_, List.getElem?_eq_getElem (by omega)⟩
        have hmem : ∀ x ∈ F.take j ++ F.drop j1, x ∈ F := fun x hx => (List.mem_append.1 hx).elim List.mem_of_mem_take List.mem_of_mem_drop
        have hzn : z ∉ F.take j ++ F.drop j1 := less_out HFS.out.nodup hz HJ1.out
        have hlen : (F.take j ++ F.drop j1).length ≤ 2000 := by have := HJ1.out; rw [List.length_append, List.length_take, List.length_drop]; omega
        have hw2 : withS [] (F.take j ++ F.drop j1) = (some (uniqS (F.take j ++ F.drop j1)), 0) := with_nil (fun x hx => HFRT.out x (hmem x hx)) (by omega)
        have hs13 : scopedL e (uniqS (F.take j ++ F.drop j1)) = 13 := scoped_less HOK.out HGF.out (srt_uniqS _) (fun x hx => (HFM.out x).1 (hmem x (by rwa [mem_uniqS] at hx))) ((HFM.out z).1 (List.mem_of_getElem? hz)) (by rwa [mem_uniqS])
        have hnw := HNW.out v3 _ w3 (HBW.out.trans hb3) hr3 (by omega) (fun x hx => HFZ.out x (hmem x hx))
        rw [hw2] at hnw
        obtain ⟨R, hR⟩ : ∃ R, uniqS (F.take j ++ F.drop j1) = R := ⟨_, rfl⟩
        rw [hR] at hnw hs13
        have HNW2 := Lib.hid hnw
        have HS13 := Lib.hid hs13
        have HB3 := Lib.hid hb3
        clear hr3 hz hmem hzn hlen hw2 hs13 hnw hR hown2 hown3 hg2 hg3 own0 hb2 hb2v hb3 hb3v hb1
        refine wpAnyH_ready (rs := [10]) (by kernel_rfl) (by simp) ?_
        refine AllReadyH.cons (o := _) rfl (fun K hK => ?_) AllReadyH.nil
        go_simp
        go_at_call 20
        refine HNW2.out.mono ?_
        rintro e5 w5 ⟨hb5, p5, rfl, hp5⟩
        obtain ⟨q5, rfl⟩ := scope_ptr hp5
        dsimp only
        have hb6 := HB3.out.trans hb5
        refine hK.out _ _ hb6 (fun hHeld => ?_)
        clear hK K
        refine wpAnyH_take (i := 11) (oi := _) (v := ?_) rfl (by kernel_rfl) (by kernel_rfl) (by kernel_rfl) (fun _ _ _ h => h) ?_ (by assumption) ?_
        rotate_left 1
        · first
            | (refine Or.inl ⟨by rfl, ?_⟩; intro w9 hSw; (try dsimp only at hSw); go_simp; (try with_reducible rfl); done)
            | (refine Or.inr ⟨by rfl, ?_⟩; rfl)
        simp only [List.getElem_toArray, List.getElem_cons_succ, List.getElem_cons_zero, Act.put, List.setIfInBounds_toArray, List.set_cons_zero, List.set_cons_succ]
        refine wpAnyH_take (i := 12) (oi := _) (v := ?_) rfl (by kernel_rfl) (by kernel_rfl) (by kernel_rfl) (fun _ _ _ h => h) ?_ (by assumption) ?_
        rotate_left 1
        · first
            | (refine Or.inl ⟨by rfl, ?_⟩; intro w9 hSw; (try dsimp only at hSw); go_simp; (try with_reducible rfl); done)
            | (refine Or.inr ⟨by rfl, ?_⟩; rfl)
        simp only [List.getElem_toArray, List.getElem_cons_succ, List.getElem_cons_zero, Act.put, List.setIfInBounds_toArray, List.set_cons_zero, List.set_cons_succ]
        refine wpAnyH_take (i := 13) (oi := _) (v := ?_) rfl (by kernel_rfl) (by kernel_rfl) (by kernel_rfl) (fun _ _ _ h => h) ?_ (by assumption) ?_
        rotate_left 1
        · first
            | (refine Or.inl ⟨by rfl, ?_⟩; intro w9 hSw; (try dsimp only at hSw); go_simp; (try with_reducible rfl); done)
            | (refine Or.inr ⟨by rfl, ?_⟩; rfl)
        simp only [List.getElem_toArray, List.getElem_cons_succ, List.getElem_cons_zero, Act.put, List.setIfInBounds_toArray, List.set_cons_zero, List.set_cons_succ]
        refine wpAnyH_take (i := 14) (oi := _) (v := ?_) rfl (by kernel_rfl) (by kernel_rfl) (by kernel_rfl) (fun _ _ _ h => h) ?_ (by assumption) ?_
        rotate_left 1
        · first
            | (refine Or.inl ⟨by rfl, ?_⟩; intro w9 hSw; (try dsimp only at hSw); go_simp; (try with_reducible rfl); done)
            | (refine Or.inr ⟨by rfl, ?_⟩; rfl)
        simp only [List.getElem_toArray, List.getElem_cons_succ, List.getElem_cons_zero, Act.put, List.setIfInBounds_toArray, List.set_cons_zero, List.set_cons_succ]
        refine wpAnyH_take (i := 15) (oi := _) (v := ?_) rfl (by kernel_rfl) (by kernel_rfl) (by kernel_rfl) (fun _ _ _ h => h) ?_ (by assumption) ?_
        rotate_left 1
        · first
            | (refine Or.inl ⟨by rfl, ?_⟩; intro w9 hSw; (try dsimp only at hSw); go_simp; (try with_reducible rfl); done)
            | (refine Or.inr ⟨by rfl, ?_⟩; rfl)
        simp only [List.getElem_toArray, List.getElem_cons_succ, List.getElem_cons_zero, Act.put, List.setIfInBounds_toArray, List.set_cons_zero, List.set_cons_succ]
        refine wpAnyH_done (by kernel_rfl) ?_ _
        have hsc := HSC.out R w5 (HBW.out.trans hb6) _ hp5
        rw [HS13.out] at hsc
        have HSC2 := Lib.hid hsc
        have HB6 := Lib.hid hb6
        replace c0 := hb6.keep c0
        replace c1 := hb6.keep c1
        replace c2 := hb6.keep c2
        replace c3 := hb6.keep c3
        replace c4 := hb6.keep c4
        replace c5 := hb6.keep c5
        replace c6 := hb6.keep c6
        replace c7 := hb6.keep c7
        replace c8 := hb6.keep c8
        replace c9 := hb6.keep c9
        replace c10 := hb6.keep c10
        clear hb5 hb6 hsc hp5 hHeld
        go_wp2_with fail
        refine HSC2.out.mono ?_
        rintro e7 w7 ⟨rfl, hb7⟩
        go_wp2_with fail
        have hlt9 := HLT.out
        have hj19 := HJ1.out
        exact ⟨⟨j1, by omega, by go_num, HBL.out.trans (HB6.out.trans hb7)⟩, by simp [intOf]; omega⟩
    · obtain rfl : j = fn := by omega
      go_wp2_with fail
      go_ret
      exact ⟨rfl, HBA.out.trans hbel⟩
end Go.Proofs.YtchbhcjhoocjaaaGreatDoor
