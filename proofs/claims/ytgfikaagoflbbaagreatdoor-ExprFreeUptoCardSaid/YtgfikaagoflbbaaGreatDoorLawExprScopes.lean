/-
  The walk of the law ExprScopes: whatever the expression and the names: true.
-/
import Derived.Test.YtgfikaagoflbbaaGreatDoorEXE
namespace Go.Proofs.YtgfikaagoflbbaaGreatDoor
open Go.RowKit

theorem check_ok {e : Ex} (h : CheckE e = 0) : OkE e := by
  unfold CheckE at h
  split at h
  · cases h
  · exact ⟨true, h⟩
theorem with_some {l M : List ByteArray} (h : withS [] l = (some M, 0)) : Srt M ∧ M.length ≤ 4096 ∧ ∀ x, x ∈ M ↔ x ∈ l := by
  unfold withS at h
  split at h
  · cases h
  · split at h
    · cases h
    · injection h with h _
      injection h with h
      subst h
      exact ⟨srt_addS _ srt_nil, by omega, fun x => by rw [mem_addS]; simp⟩
/-- In scope by the program just as by the document. -/
theorem scopes_same {e : Ex} (hok : OkE e) (hc : cE e ≤ 1500) (hb : bE e ≤ 8000) {l M : List ByteArray} (hl : l.length ≤ 200) (hM : Srt M) (hml : ∀ x ∈ M, x ∈ l) : rscE e M = scopedE e M := by
  have hf : Fit e M := fit_of e M hc hb l hl fun x hx => .inl (hml x hx)
  exact ((rsc_free e hok M hM.nodup hf).uniq (scoped_free e hok M hM hf))

set_option maxRecDepth 100000 in
set_option maxHeartbeats 8000000 in
theorem exprScopes_walk {w : World} (e : Ex) (en el : Value) (he : ExAt w e en el) (hbe : e.bulk ≤ 1048576) (v : Value) (l : List ByteArray) (hv : RowAt0 w v (strsV l)) (hm : sumS l ≤ 1048576) (hE : EnvX w) :
    Calls Tryz.prog 3 #[exV e en el, v] w (RetBel (.bool true) w) := by
  have HX := Lib.hid he
  have HE := Lib.hid hE
  have HV0 := Lib.hid hv
  obtain ⟨na, la, nn, nc, m, lc, rfl, rfl, _, _, _, _, _, _, _, _⟩ := he.opened
  obtain ⟨va, vc, rfl, _⟩ := row0_form hv l.length (strsV_length l)
  have hln := len_sumS l
  unfold exV
  have HCK := Lib.hid (fun W (hW : Bel w W) => rcheck_x e _ _ W (by omega) (ExAt.bel hW e he))
  have HNW := Lib.hid (fun W (hW : Bel w W) => new_c _ l W (hE.1.bel hW) (hv.bel hW) (by omega) (fun x hx => by have := mem_sumS l x hx; omega))
  have HRW := Lib.hid (fun W (hW : Bel w W) => rwith_c (.slice none 0 0) [] _ l W srt_nil (.inl ⟨rfl, rfl⟩) (by simp) (hv.bel hW) (by omega) (fun x hx => by have := mem_sumS l x hx; omega))
  obtain ⟨c, hc⟩ : ∃ c, CheckE e = c := ⟨_, rfl⟩
  rw [hc] at HCK
  have HC := Lib.hid hc
  obtain ⟨n, hn⟩ : ∃ n, l.length = n := ⟨_, rfl⟩
  rw [hn] at HNW HRW hln ⊢
  have HN := Lib.hid hn
  clear he hv hE hc hn
  go_enter Tryz.func3, Tryz.ntmps3
  go_wp2_with fail
  obtain ⟨V1, h1, k1, l1, s1⟩ := alloc_step w 25 [.int .i64 e.k, .string e.s, .slice na nn nc, .slice la m lc]
  rw [h1]
  have BX := Lib.hid k1
  have HV := Lib.hid l1
  clear h1 k1 l1 s1
  refine (ealive_c _ (HE.out.bel HV.out)).mono ?_
  rintro e1 w1 ⟨rfl, hb1⟩
  have c0 := hb1.keep (BX.out.at 0)
  have c1 := hb1.keep (BX.out.at 1)
  have c2 := hb1.keep (BX.out.at 2)
  have c3 := hb1.keep (BX.out.at 3)
  have HB1 := Lib.hid (HV.out.trans hb1)
  clear hb1
  go_wp2_with fail
  obtain ⟨V3, h3, k3, l3, s3⟩ := alloc_step w1 25 [.int .i64 e.k, .string e.s, .slice na nn nc, .slice la m lc]
  rw [h3]
  have hb3 := HB1.out.trans l3
  have HG := Lib.hid (egreat_c [e] (some ⟨w1.heap.size, 0, none⟩) 1 1 V3 rfl (by omega) (parts_of_exs (exs_one k3 rfl (ExAt.bel hb3 e HX.out))) (by intro x hx; simp at hx; subst hx; omega))
  have e0 := l3.keep c0
  have e1 := l3.keep c1
  have e2 := l3.keep c2
  have e3 := l3.keep c3
  have HB3 := Lib.hid hb3
  clear h3 k3 l3 s3 hb3 c0 c1 c2 c3
  refine HG.out.mono ?_
  rintro e4 w4 ⟨rfl, hb4⟩
  have c0 := hb4.keep e0
  have c1 := hb4.keep e1
  have c2 := hb4.keep e2
  have c3 := hb4.keep e3
  have HB4 := Lib.hid (HB3.out.trans hb4)
  obtain ⟨g, hg⟩ : ∃ g, [e].any greatE = g := ⟨_, rfl⟩
  rw [hg]
  rw [List.any_cons, List.any_nil, Bool.or_false] at hg
  have HGR := Lib.hid hg
  clear e0 e1 e2 e3 hb4 hg HG
  cases g with
  | true =>
    have h1 : oneIf true = 1 := rfl
    rw [h1]
    go_wp2_with fail
    refine (ealive_c _ (HE.out.bel HB4.out)).mono ?_
    rintro e5 w5 ⟨rfl, hb5⟩
    go_wp2_with fail
    go_ret
    exact ⟨rfl, HB4.out.trans hb5⟩
  | false =>
  have h1 : oneIf false = 0 := rfl
  rw [h1]
  have HGF := Lib.hid (greatE_false HGR.out)
  clear h1 HGR
  by_cases h100 : 100 < n
  · have h100i : (100 : Int) < n := by omega
    clear h100
    go_wp2_with fail
    refine (ealive_c _ (HE.out.bel HB4.out)).mono ?_
    rintro e5 w5 ⟨rfl, hb5⟩
    go_wp2_with fail
    go_ret
    exact ⟨rfl, HB4.out.trans hb5⟩
  have h100i : ¬ (100 : Int) < n := by omega
  go_wp2_with fail
  refine (HCK.out _ HB4.out).mono ?_
  rintro e5 w5 ⟨rfl, hb5⟩
  have HB5 := Lib.hid (HB4.out.trans hb5)
  have d0 := hb5.keep c0
  have d1 := hb5.keep c1
  have d2 := hb5.keep c2
  have d3 := hb5.keep c3
  clear hb5 c0 c1 c2 c3
  by_cases hc0 : c = 0
  · subst hc0
    have HOK := Lib.hid (check_ok HC.out)
    go_wp2_with fail
    rcases withS_err (N := []) (l := l) (r := withS [] l) rfl with ⟨M, hM⟩ | ⟨c, hM, hcz⟩
    · rw [hM] at HNW HRW
      obtain ⟨hs, hml, hmem⟩ := with_some hM
      have HMS := Lib.hid hs
      have HML := Lib.hid hml
      have hsame := scopes_same HOK.out HGF.out.1 HGF.out.2 (l := l) (by rw [HN.out]; omega) hs (fun x hx => (hmem x).1 hx)
      obtain ⟨R, hR⟩ : ∃ R, scopedE e M = R := ⟨_, rfl⟩
      rw [hR] at hsame
      have hfl : (uniqS (freeE e [])).length ≤ 1500 := Nat.le_trans (uniq_free_len e) HGF.out.1
      have hcE := HGF.out.1
      have hsc := fun W (hW : Bel w W) p (hp : ScopeIs W p M) => scoped_e e.bulk e (Nat.le_refl _) (by omega) _ _ p M W (HE.out.bel hW) hp (ExAt.bel hW e HX.out)
      have hrs := fun W (hW : Bel w W) sl (hsl : RowAt0 W sl (strsV M)) => rscoped_e e.bulk e (Nat.le_refl _) (by omega) _ _ sl M W HOK.out (by omega) (ExAt.bel hW e HX.out) hsl
      have hfr := fun W (hW : Bel w W) => free_c e _ _ W hbe (ExAt.bel hW e HX.out)
      have hrf := fun W (hW : Bel w W) => rfree_e e.bulk e (Nat.le_refl _) (by omega) _ _ (.slice none 0 0) [] W HOK.out (by omega) (by simp; omega) (ExAt.bel hW e HX.out) (.inl ⟨rfl, rfl⟩)
      rw [hR] at hsc
      rw [hsame] at hrs
      obtain ⟨F, hF⟩ : ∃ F, uniqS (freeE e []) = F := ⟨_, rfl⟩
      rw [hF] at hfr hrf hfl
      have HSC := Lib.hid hsc
      have HRS := Lib.hid hrs
      have HFR := Lib.hid hfr
      have HRF := Lib.hid hrf
      have hsm := fun a1 n1 c1 a2 n2 c2 W (r1 : RowAt0 W (.slice a1 n1 c1) (strsV F)) (r2 : RowAt0 W (.slice a2 n2 c2) (strsV F)) => esame_c F F a1 a2 n1 c1 n2 c2 W (names_of_row0 r1).1 (names_of_row0 r2).1 (by have := (names_of_row0 r1).1; omega) (by have := (names_of_row0 r2).1; omega) (names_of_row0 r1).2.2 (names_of_row0 r2).2.2
      rw [decide_eq_true (rfl : F = F)] at hsm
      have HSM := Lib.hid hsm
      clear hs hml hmem hsame hR hsc hrs hfr hrf hF hsm hM hcE HGF HOK HMS HML
      refine (HNW.out _ HB5.out).mono ?_
      rintro e6 w6 ⟨hb6, p6, rfl, hp6⟩
      obtain ⟨q6, rfl⟩ := scope_ptr hp6
      have HP6 := Lib.hid hp6
      have HB6 := Lib.hid hb6
      clear hb6 hp6
      go_wp2_with fail
      refine (HRW.out _ (HB5.out.trans HB6.out)).mono ?_
      rintro e7 w7 ⟨hb7, v7, rfl, hr7⟩
      obtain ⟨a7, c7, rfl, _⟩ := row0_form hr7 _ (strsV_length _)
      have hb57 := HB6.out.trans hb7
      have HP7 := Lib.hid (HP6.out.bel hb7)
      have HR7 := Lib.hid hr7
      have HB7 := Lib.hid (HB5.out.trans hb57)
      have c0 := hb57.keep d0
      have c1 := hb57.keep d1
      have c2 := hb57.keep d2
      have c3 := hb57.keep d3
      clear hb7 hr7 hb57 d0 d1 d2 d3 HP6
      go_wp2_with fail
      go_region_held3 (fun w' => w'.cell? ⟨w.heap.size, 0, none⟩ = some (.int .i64 e.k) ∧ w'.cell? ⟨w.heap.size, 1, none⟩ = some (.string e.s) ∧ w'.cell? ⟨w.heap.size, 2, none⟩ = some (.slice na nn nc) ∧ w'.cell? ⟨w.heap.size, 3, none⟩ = some (.slice la m lc) ∧ Bel w7 w') (((try dsimp only); (try go_split_ands); (refine ⟨?_, ?_, ?_, ?_, ?_⟩ <;> first | assumption | exact Bel.keep (by assumption) (by assumption) | ((repeat (first | exact Bel.refl _ | assumption | refine Bel.to_drewN ?_ _ | refine Bel.to_drew ?_ | refine Bel.to_setCell ?_ (by first | exact Nat.le_refl _ | (simp; done) | (simp; omega) | omega) _ | refine Bel.to_alloc ?_ _ | refine Bel.trans ?_ (by assumption))); done) | (go_keep; done))))
        (first
          | (go_at_call 14; refine (HSC.out _ (HB7.out.trans (by (repeat (first | exact Bel.refl _ | assumption | refine Bel.to_drewN ?_ _ | refine Bel.to_drew ?_ | refine Bel.to_setCell ?_ (by first | exact Nat.le_refl _ | (simp; done) | (simp; omega) | omega) _ | refine Bel.to_alloc ?_ _ | refine Bel.trans ?_ (by assumption))))) _ (HP7.out.bel (by (repeat (first | exact Bel.refl _ | assumption | refine Bel.to_drewN ?_ _ | refine Bel.to_drew ?_ | refine Bel.to_setCell ?_ (by first | exact Nat.le_refl _ | (simp; done) | (simp; omega) | omega) _ | refine Bel.to_alloc ?_ _ | refine Bel.trans ?_ (by assumption)))))).mono ?_; rintro e8 w8 ⟨rfl, hb8⟩)
          | (go_at_call 15; refine (HRS.out _ (HB7.out.trans (by (repeat (first | exact Bel.refl _ | assumption | refine Bel.to_drewN ?_ _ | refine Bel.to_drew ?_ | refine Bel.to_setCell ?_ (by first | exact Nat.le_refl _ | (simp; done) | (simp; omega) | omega) _ | refine Bel.to_alloc ?_ _ | refine Bel.trans ?_ (by assumption))))) _ (HR7.out.bel (by (repeat (first | exact Bel.refl _ | assumption | refine Bel.to_drewN ?_ _ | refine Bel.to_drew ?_ | refine Bel.to_setCell ?_ (by first | exact Nat.le_refl _ | (simp; done) | (simp; omega) | omega) _ | refine Bel.to_alloc ?_ _ | refine Bel.trans ?_ (by assumption)))))).mono ?_; rintro e9 w9 ⟨rfl, hb9⟩)
          | (go_at_call 17; refine (HFR.out _ (HB7.out.trans (by (repeat (first | exact Bel.refl _ | assumption | refine Bel.to_drewN ?_ _ | refine Bel.to_drew ?_ | refine Bel.to_setCell ?_ (by first | exact Nat.le_refl _ | (simp; done) | (simp; omega) | omega) _ | refine Bel.to_alloc ?_ _ | refine Bel.trans ?_ (by assumption)))))).mono ?_; rintro e10 w10 ⟨a10, n10, c10, rfl, _, hr10, hb10⟩)
          | (go_at_call 18; refine (HRF.out _ (HB7.out.trans (by (repeat (first | exact Bel.refl _ | assumption | refine Bel.to_drewN ?_ _ | refine Bel.to_drew ?_ | refine Bel.to_setCell ?_ (by first | exact Nat.le_refl _ | (simp; done) | (simp; omega) | omega) _ | refine Bel.to_alloc ?_ _ | refine Bel.trans ?_ (by assumption)))))).mono ?_; rintro e11 w11 ⟨a11, n11, c11, rfl, _, hr11, hb11⟩)
          | (go_at_call 16; refine (HSM.out _ _ _ _ _ _ _ (RowAt0.bel hr10 (by (repeat (first | exact Bel.refl _ | assumption | refine Bel.to_drewN ?_ _ | refine Bel.to_drew ?_ | refine Bel.to_setCell ?_ (by first | exact Nat.le_refl _ | (simp; done) | (simp; omega) | omega) _ | refine Bel.to_alloc ?_ _ | refine Bel.trans ?_ (by assumption))))) (RowAt0.bel hr11 (by (repeat (first | exact Bel.refl _ | assumption | refine Bel.to_drewN ?_ _ | refine Bel.to_drew ?_ | refine Bel.to_setCell ?_ (by first | exact Nat.le_refl _ | (simp; done) | (simp; omega) | omega) _ | refine Bel.to_alloc ?_ _ | refine Bel.trans ?_ (by assumption)))))).mono ?_; rintro e12 w12 ⟨rfl, hb12⟩))
      all_goals (go_wp2_with fail; go_ret; go_split_ands; exact ⟨rfl, HB7.out.trans (by assumption)⟩)
    · rw [hM] at HNW
      have hc2 : ((c : Int) == 0) = false := by simpa using hcz
      have hc3 : ((c : Int) != 0) = true := by simpa using hcz
      clear hM hcz
      refine (HNW.out _ HB5.out).mono ?_
      rintro e6 w6 ⟨hb6, rfl⟩
      go_wp2_with fail
      go_ret
      exact ⟨rfl, HB5.out.trans hb6⟩
  · have hc2 : ((c : Int) == 0) = false := by simpa using hc0
    have hc3 : ((c : Int) != 0) = true := by simpa using hc0
    clear hc0
    go_wp2_with fail
    refine (ealive_c _ (HE.out.bel HB5.out)).mono ?_
    rintro e6 w6 ⟨rfl, hb6⟩
    go_wp2_with fail
    go_ret
    exact ⟨rfl, HB5.out.trans hb6⟩
end Go.Proofs.YtgfikaagoflbbaaGreatDoor
