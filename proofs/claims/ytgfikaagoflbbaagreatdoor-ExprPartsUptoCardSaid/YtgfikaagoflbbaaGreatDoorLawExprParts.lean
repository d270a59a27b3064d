/-
  The walk of the law ExprParts: whatever the expression: true.
-/
import Derived.Test.YtgfikaagoflbbaaGreatDoorLawExprScopes
import Derived.Test.YtgfikaagoflbbaaGreatDoorEHW
namespace Go.Proofs.YtgfikaagoflbbaaGreatDoor
open Go.RowKit

theorem check_weak {e : Ex} (h : checkE e false = 0) : checkE e true = 0 := by
  rw [checkE_eq] at h ⊢
  have h1 : ownK e.k e.s e.ns e.l.length false = 0 := by
    split at h
    · assumption
    · exact h
  have h2 : ownK e.k e.s e.ns e.l.length true = 0 := by
    unfold ownK at h1 ⊢
    split at h1
    · cases h1
    · rename_i hk
      rw [if_neg hk]
      split at h1
      · cases h1
      · rename_i hf
        have hf2 : formE e.k e.s e.ns.length e.l.length true = true := by
          unfold formE at hf ⊢
          simp only [Bool.not_eq_false, Bool.and_eq_true] at hf ⊢
          exact ⟨hf.1, hf.2.1, hf.2.2.1, by simp⟩
        rw [if_neg (by rw [hf2]; simp)]
        exact h1
  rw [if_pos h1] at h
  rw [if_pos h2]
  exact h
theorem part_depth {e y : Ex} {j : Nat} (h : e.l[j]? = some y) : dE y < dE e := by
  rw [dE_eq e]
  have h1 := dsE_take e.l j y h
  have h2 : ∀ (l : List Ex) (n : Nat), dsE (l.take n) ≤ dsE l := by
    intro l
    induction l with
    | nil => intro n; rw [List.take_nil]; exact Nat.le_refl _
    | cons x r ih =>
      intro n
      cases n with
      | zero => rw [List.take_zero]; exact Nat.zero_le _
      | succ n =>
        rw [List.take_succ_cons]
        have := ih n
        unfold dsE
        omega
  have := h2 e.l (j + 1)
  omega
theorem part_right {e y : Ex} {j : Nat} (hc : CheckE e = 0) (h : e.l[j]? = some y) : CheckE y = 0 := by
  unfold CheckE at hc ⊢
  split at hc
  · cases hc
  · rename_i hd
    have h1 := checkE_part hc h
    have h2 : deepE y 200 = false := by
      rw [deepE_iff] at hd ⊢
      have := part_depth h
      simp at hd ⊢
      omega
    rw [h2]
    have h3 : checkE y true = 0 := by
      cases hb : (decide (e.k = 7) && j == 1) with
      | true => rw [hb] at h1; exact h1
      | false => rw [hb] at h1; exact check_weak h1
    simpa using h3
theorem part_free {e y : Ex} {j : Nat} (h : e.l[j]? = some y) {z : ByteArray} (hz : z ∈ uniqS (freeE y [])) : z ∈ joinNew (uniqS (freeE e [])) (givenK e.k e.s e.ns j) := by
  rw [mem_joinNew, mem_uniqS]
  rw [mem_uniqS] at hz
  by_cases hg : z ∈ givenK e.k e.s e.ns j
  · exact .inr hg
  · exact .inl ((mem_free0 z e).2 (.inr ⟨j, y, h, hz, hg⟩))

set_option maxRecDepth 100000 in
set_option maxHeartbeats 8000000 in
theorem exprParts_walk {w : World} (e : Ex) (en el : Value) (he : ExAt w e en el) (hbe : e.bulk ≤ 1048576) (hE : EnvX w) :
    Calls Tryz.prog 6 #[exV e en el] w (RetBel (.bool true) w) := by
  have HX := Lib.hid he
  have HE := Lib.hid hE
  obtain ⟨na, la, nn, nc, m, lc, rfl, rfl, hnn, hm, _, _, _, hmb, _, hps⟩ := he.opened
  have HPS := Lib.hid hps
  have HM := Lib.hid hm
  have HNN := Lib.hid hnn
  have hm2 : m ≤ 1073741824 := by omega
  unfold exV
  have HCK := Lib.hid (fun (x : Ex) xn xl W (hW : Bel w W) (hx : x.bulk ≤ 1073741824) (h : ExAt W x xn xl) => check_x x xn xl W (HE.out.bel hW) hx h)
  have HDX := Lib.hid (fun W (hW : Bel w W) => depth_c e.bulk e (Nat.le_refl _) (by omega) _ _ W (ExAt.bel hW e he))
  have HNX := Lib.hid (fun W (hW : Bel w W) => count_c e.bulk e (Nat.le_refl _) (by omega) _ _ W (ExAt.bel hW e he))
  have HFX := Lib.hid (fun W (hW : Bel w W) => free_c e _ _ W hbe (ExAt.bel hW e he))
  obtain ⟨c, hc⟩ : ∃ c, CheckE e = c := ⟨_, rfl⟩
  have hck := fun W (hW : Bel w W) => HCK.out e _ _ W hW (by omega) (ExAt.bel hW e he)
  rw [hc] at hck
  have HCX := Lib.hid hck
  have HC := Lib.hid hc
  clear he hE hc hck hnn hm hmb hps
  go_enter Tryz.func6, Tryz.ntmps6
  go_wp2_with fail
  obtain ⟨V1, h1, k1, l1, s1⟩ := alloc_step w 25 [.int .i64 e.k, .string e.s, .slice na nn nc, .slice la m lc]
  rw [h1]
  have BX := Lib.hid k1
  have HV := Lib.hid l1
  clear h1 k1 l1 s1
  refine (ealive_c _ (HE.out.bel HV.out)).mono ?_
  rintro e1 w1 ⟨rfl, hb1⟩
  have c0 := hb1.keep (BX.out.at 0)
  have c1 := hb1.keep (BX.out.at 1)
  have c2 := hb1.keep (BX.out.at 2)
  have c3 := hb1.keep (BX.out.at 3)
  have HB1 := Lib.hid (HV.out.trans hb1)
  clear hb1
  go_wp2_with fail
  obtain ⟨V3, h3, k3, l3, s3⟩ := alloc_step w1 25 [.int .i64 e.k, .string e.s, .slice na nn nc, .slice la m lc]
  rw [h3]
  have hb3 := HB1.out.trans l3
  have HG := Lib.hid (egreat_c [e] (some ⟨w1.heap.size, 0, none⟩) 1 1 V3 rfl (by omega) (parts_of_exs (exs_one k3 rfl (ExAt.bel hb3 e HX.out))) (by intro x hx; simp at hx; subst hx; omega))
  have e0 := l3.keep c0
  have e1 := l3.keep c1
  have e2 := l3.keep c2
  have e3 := l3.keep c3
  have HB3 := Lib.hid hb3
  clear h3 k3 l3 s3 hb3 c0 c1 c2 c3
  refine HG.out.mono ?_
  rintro e4 w4 ⟨rfl, hb4⟩
  have c0 := hb4.keep e0
  have c1 := hb4.keep e1
  have c2 := hb4.keep e2
  have c3 := hb4.keep e3
  have HB4 := Lib.hid (HB3.out.trans hb4)
  obtain ⟨g, hg⟩ : ∃ g, [e].any greatE = g := ⟨_, rfl⟩
  rw [hg]
  rw [List.any_cons, List.any_nil, Bool.or_false] at hg
  have HGR := Lib.hid hg
  clear e0 e1 e2 e3 hb4 hg HG
  cases g with
  | true =>
    have h1 : oneIf true = 1 := rfl
    rw [h1]
    go_wp2_with fail
    refine (ealive_c _ (HE.out.bel HB4.out)).mono ?_
    rintro e5 w5 ⟨rfl, hb5⟩
    go_wp2_with fail
    go_ret
    exact ⟨rfl, HB4.out.trans hb5⟩
  | false =>
  have h1 : oneIf false = 0 := rfl
  rw [h1]
  have HGF := Lib.hid (greatE_false HGR.out)
  clear h1 HGR
  go_wp2_with fail
  refine (HCX.out _ HB4.out).mono ?_
  rintro e5 w5 ⟨rfl, hb5⟩
  have HB5 := Lib.hid (HB4.out.trans hb5)
  have d0 := hb5.keep c0
  have d1 := hb5.keep c1
  have d2 := hb5.keep c2
  have d3 := hb5.keep c3
  clear hb5 c0 c1 c2 c3
  by_cases hc0 : ¬ c = 0
  · have hc2 : ((c : Int) == 0) = false := by simpa using hc0
    have hc3 : ((c : Int) != 0) = true := by simpa using hc0
    clear hc0
    go_wp2_with fail
    refine (ealive_c _ (HE.out.bel HB5.out)).mono ?_
    rintro e9 w9 ⟨rfl, hb9⟩
    go_wp2_with fail
    go_ret
    exact ⟨rfl, HB5.out.trans hb9⟩
  obtain rfl : c = 0 := by omega
  clear hc0
  have HOK := Lib.hid (check_ok HC.out)
  go_wp2_with fail
  refine (HFX.out _ HB5.out).mono ?_
  rintro e6 w6 ⟨fa, fn, fc, rfl, hfn, hfr, hb6⟩
  have HB6 := Lib.hid (HB5.out.trans hb6)
  have HFN := Lib.hid hfn
  have HFR := Lib.hid hfr
  have c0 := hb6.keep d0
  have c1 := hb6.keep d1
  have c2 := hb6.keep d2
  have c3 := hb6.keep d3
  have C0 := Lib.hid c0
  have C1 := Lib.hid c1
  have C2 := Lib.hid c2
  have C3 := Lib.hid c3
  have hcb : cE e ≤ 1048576 := Nat.le_trans (cE_bulk e) hbe
  have HCB := Lib.hid hcb
  have hfn2 : fn ≤ 1048576 := by have := uniq_free_len e; omega
  have HCS := Lib.hid (cE_eq e)
  clear d0 d1 d2 d3 hb6 hfn hfr hcb HFX HCX
  go_wp2_with fail
  clear c0 c1 c2 c3
  go_loopw [4, 28] (fun nv i wr => ∃ j q : Nat, j ≤ m ∧ i = .int .i64 j ∧ nv = .int .i64 q ∧ q = 1 + csE (e.l.take j) ∧ Bel w6 wr) (fun _ i _ => m - (intOf i).toNat)
  case atStart => exact ⟨0, 1, Nat.zero_le _, rfl, rfl, by rw [List.take_zero]; unfold csE; rfl, Bel.refl _⟩
  case round =>
    obtain ⟨j, q, hj, rfl, rfl, hq, hbel⟩ := hrel
    have HQ := Lib.hid hq
    have HBL := Lib.hid hbel
    have HBW := Lib.hid (HB6.out.trans hbel)
    have c0 := hbel.keep C0.out
    have c1 := hbel.keep C1.out
    have c2 := hbel.keep C2.out
    have c3 := hbel.keep C3.out
    have hwl : w.heap.size < wr.heap.size := cell_lt c0
    clear hq hbel
    by_cases hlt : j < m
    · have hlti : (j : Int) < m := by omega
      obtain ⟨y, hy⟩ : ∃ y, e.l[j]? = some y := ⟨_, List.getElem?_eq_getElem (by have := HM.out; omega)⟩
      obtain ⟨b, off, yna, ynn, ync, yla, yln, ylc, rfl, g0, g1, g2, g3, hya⟩ := HPS.out j y hy
      have f0 := HBW.out.keep g0
      have f1 := HBW.out.keep g1
      have f2 := HBW.out.keep g2
      have f3 := HBW.out.keep g3
      have hyb := bulk_part hy
      have HCY : Hid (∀ W, Bel wr W → Calls Tryz.prog 19 #[.agg #[.int .i64 y.k, .string y.s, .slice yna ynn ync, .slice yla yln ylc]] W (RetBel (.int .i64 0) W)) := Lib.hid fun W hW => by
        have := HCK.out y _ _ W (HBW.out.trans hW) (by omega) (ExAt.bel (HBW.out.trans hW) y hya)
        rw [part_right HC.out hy] at this
        exact this
      have HDY := Lib.hid (fun W (hW : Bel wr W) => depth_c y.bulk y (Nat.le_refl _) (by omega) _ _ W (ExAt.bel (HBW.out.trans hW) y hya))
      have HNY := Lib.hid (fun W (hW : Bel wr W) => count_c y.bulk y (Nat.le_refl _) (by omega) _ _ W (ExAt.bel (HBW.out.trans hW) y hya))
      have HFY := Lib.hid (fun W (hW : Bel wr W) => free_c y _ _ W (by omega) (ExAt.bel (HBW.out.trans hW) y hya))
      have hdl := part_depth hy
      have hdi : ((dE e : Int) ≤ dE y) = False := eq_false (by omega)
      have hdi2 : ¬ (dE e : Int) ≤ dE y := by omega
      have hct := csE_take e.l j y hy
      have hcm := csE_mono e.l (j + 1)
      have hcy : q + cE y ≤ 1048577 := by have := HQ.out; have := HCS.out; have := HCB.out; omega
      have hw1 : IntKind.i64.wrap ((q : Int) + cE y) = (q : Int) + cE y := IntWalk.i64_in _ (by omega)
      have HCT := Lib.hid hct
      have HPF := Lib.hid (fun z hz => part_free (z := z) hy hz)
      have HWI := Lib.hid (fun W (hW : Bel w W) u (hu : RowAt0 W u (strsV (uniqS (freeE e [])))) => rwithin_c e _ _ j u _ W (by omega) (by omega) (fun h17 => by obtain ⟨t, h⟩ := HOK.out.own; have := form_map (own_form h) h17; have := HM.out; omega) (ExAt.bel hW e HX.out) hu (by have := uniq_free_len e; have := HCB.out; omega))
      have HGL := Lib.hid (Nat.le_trans (joinNew_len (givenK e.k e.s e.ns j) (uniqS (freeE e []))) (by have := given_le e.k e.s e.ns j; have := bulk_eq e; have := len_names e.ns; have := uniq_free_len e; have := HCB.out; omega : _ ≤ 4194304))
      clear g0 g1 g2 g3 hya hy hyb hdl hct hcm
      go_upto_region 8 with fail
      obtain ⟨A1, h1, k1, l1, s1⟩ := alloc_step wr 25 [.int .i64 y.k, .string y.s, .slice yna ynn ync, .slice yla yln ylc]
      rw [h1]
      have KY := Lib.hid k1
      have L1 := Lib.hid l1
      replace c0 := l1.keep c0
      replace c1 := l1.keep c1
      replace c2 := l1.keep c2
      replace c3 := l1.keep c3
      have y0 := k1.at 0
      have y1 := k1.at 1
      have y2 := k1.at 2
      have y3 := k1.at 3
      clear h1 k1 l1 s1 f0 f1 f2 f3
      go_cut [42] (fun v wx => v = .bool false ∧ Bel A1 wx)
      case first =>
        refine wp_region_held_drew (S := fun w' => w'.cell? ⟨wr.heap.size, 0, none⟩ = some (.int .i64 y.k) ∧ w'.cell? ⟨wr.heap.size, 1, none⟩ = some (.string y.s) ∧ w'.cell? ⟨wr.heap.size, 2, none⟩ = some (.slice yna ynn ync) ∧ w'.cell? ⟨wr.heap.size, 3, none⟩ = some (.slice yla yln ylc) ∧ w'.cell? ⟨w.heap.size, 0, none⟩ = some (.int .i64 e.k) ∧ w'.cell? ⟨w.heap.size, 1, none⟩ = some (.string e.s) ∧ w'.cell? ⟨w.heap.size, 2, none⟩ = some (.slice na nn nc) ∧ w'.cell? ⟨w.heap.size, 3, none⟩ = some (.slice (some ⟨b, off, none⟩) m lc) ∧ Bel A1 w') (by kernel_rfl) ⟨by go_simp, by go_simp, by go_simp, by go_simp, by go_simp, by go_simp, by go_simp, by go_simp, by (repeat (first | exact Bel.refl _ | assumption | refine Bel.to_drewN ?_ _ | refine Bel.to_drew ?_ | refine Bel.to_setCell ?_ (by first | exact Nat.le_refl _ | (simp; done) | (simp; omega) | omega) _ | refine Bel.to_alloc ?_ _ | refine Bel.trans ?_ (by assumption)))⟩ (fun hHeld => ?_)
        have hb0 : Bel A1 A1.drew := Bel.drew _
        clear c0 c1 c2 c3 y0 y1 y2 y3
        refine wpAnyH_take (i := 0) (oi := _) (v := ?_) rfl (by kernel_rfl) (by kernel_rfl) (by kernel_rfl) (fun _ _ _ h => h) ?_ (by assumption) ?_
        rotate_left 1
        · first
            | (refine Or.inl ⟨by rfl, ?_⟩; intro w9 hSw; (try dsimp only at hSw); go_simp; (try with_reducible rfl); done)
            | (refine Or.inr ⟨by rfl, ?_⟩; rfl)
        simp only [List.getElem_toArray, List.getElem_cons_zero, Act.put, List.setIfInBounds_toArray, List.set_cons_zero, List.set_cons_succ]
        refine wpAnyH_ready (rs := [1]) (by kernel_rfl) (by simp) ?_
        refine AllReadyH.cons (o := _) rfl (fun K hK => ?_) AllReadyH.nil
        go_simp
        go_at_call 19
        refine (HCY.out _ (L1.out.trans hb0)).mono ?_
        rintro e8 w8 ⟨rfl, hq1⟩
        dsimp only
        have hb1 := hb0.trans hq1
        refine hK.out _ _ (by obtain ⟨h0, h1, h2, h3, h4, h5, h6, h7, _⟩ := hHeld; exact ⟨hq1.keep h0, hq1.keep h1, hq1.keep h2, hq1.keep h3, hq1.keep h4, hq1.keep h5, hq1.keep h6, hq1.keep h7, hb1⟩) (fun hHeld => ?_)
        clear hK K
        refine wpAnyH_take (i := 2) (oi := _) (v := ?_) rfl (by kernel_rfl) (by kernel_rfl) (by kernel_rfl) (fun _ _ _ h => h) ?_ (by assumption) ?_
        rotate_left 1
        · first
            | (refine Or.inl ⟨by rfl, ?_⟩; intro w9 hSw; (try dsimp only at hSw); go_simp; (try with_reducible rfl); done)
            | (refine Or.inr ⟨by rfl, ?_⟩; rfl)
        simp only [List.getElem_toArray, List.getElem_cons_succ, List.getElem_cons_zero, Act.put, List.setIfInBounds_toArray, List.set_cons_zero, List.set_cons_succ]
        refine wpAnyH_take (i := 3) (oi := _) (v := ?_) rfl (by kernel_rfl) (by kernel_rfl) (by kernel_rfl) (fun _ _ _ h => h) ?_ (by assumption) ?_
        rotate_left 1
        · first
            | (refine Or.inl ⟨by rfl, ?_⟩; intro w9 hSw; (try dsimp only at hSw); go_simp; (try with_reducible rfl); done)
            | (refine Or.inr ⟨by rfl, ?_⟩; rfl)
        simp only [List.getElem_toArray, List.getElem_cons_succ, List.getElem_cons_zero, Act.put, List.setIfInBounds_toArray, List.set_cons_zero, List.set_cons_succ]
        refine wpAnyH_take (i := 4) (oi := _) (v := ?_) rfl (by kernel_rfl) (by kernel_rfl) (by kernel_rfl) (fun _ _ _ h => h) ?_ (by assumption) ?_
        rotate_left 1
        · first
            | (refine Or.inl ⟨by rfl, ?_⟩; intro w9 hSw; (try dsimp only at hSw); go_simp; (try with_reducible rfl); done)
            | (refine Or.inr ⟨by rfl, ?_⟩; rfl)
        simp only [List.getElem_toArray, List.getElem_cons_succ, List.getElem_cons_zero, Act.put, List.setIfInBounds_toArray, List.set_cons_zero, List.set_cons_succ]
        refine wpAnyH_take (i := 6) (oi := _) (v := ?_) rfl (by kernel_rfl) (by kernel_rfl) (by kernel_rfl) (fun _ _ _ h => h) ?_ (by assumption) ?_
        rotate_left 1
        · first
            | (refine Or.inl ⟨by rfl, ?_⟩; intro w9 hSw; (try dsimp only at hSw); go_simp; (try with_reducible rfl); done)
            | (refine Or.inr ⟨by rfl, ?_⟩; rfl)
        simp only [List.getElem_toArray, List.getElem_cons_succ, List.getElem_cons_zero, Act.put, List.setIfInBounds_toArray, List.set_cons_zero, List.set_cons_succ]
        refine wpAnyH_ready (rs := [5]) (by kernel_rfl) (by simp) ?_
        refine AllReadyH.cons (o := _) rfl (fun K hK => ?_) AllReadyH.nil
        go_simp
        go_at_call 21
        refine (HDY.out _ (L1.out.trans hb1)).mono ?_
        rintro e9 w9 ⟨rfl, hq2⟩
        dsimp only
        have hb2 := hb1.trans hq2
        refine hK.out _ _ (by obtain ⟨h0, h1, h2, h3, h4, h5, h6, h7, _⟩ := hHeld; exact ⟨hq2.keep h0, hq2.keep h1, hq2.keep h2, hq2.keep h3, hq2.keep h4, hq2.keep h5, hq2.keep h6, hq2.keep h7, hb2⟩) (fun hHeld => ?_)
        clear hK K
        refine wpAnyH_ready (rs := [7]) (by kernel_rfl) (by simp) ?_
        refine AllReadyH.cons (o := _) rfl (fun K hK => ?_) AllReadyH.nil
        go_simp
        go_at_call 21
        refine (HDX.out _ (HBW.out.trans (L1.out.trans hb2))).mono ?_
        rintro e10 w10 ⟨rfl, hq3⟩
        dsimp only
        have hb3 := hb2.trans hq3
        refine hK.out _ _ (by obtain ⟨h0, h1, h2, h3, h4, h5, h6, h7, _⟩ := hHeld; exact ⟨hq3.keep h0, hq3.keep h1, hq3.keep h2, hq3.keep h3, hq3.keep h4, hq3.keep h5, hq3.keep h6, hq3.keep h7, hb3⟩) (fun hHeld => ?_)
        clear hK K
        refine wpAnyH_take (i := 8) (oi := _) (v := ?_) rfl (by kernel_rfl) (by kernel_rfl) (by kernel_rfl) (fun _ _ _ h => h) ?_ (by assumption) ?_
        rotate_left 1
        · first
            | (refine Or.inl ⟨by rfl, ?_⟩; intro w9 hSw; (try dsimp only at hSw); go_simp; (try with_reducible rfl); done)
            | (refine Or.inr ⟨by rfl, ?_⟩; rfl)
        simp only [List.getElem_toArray, List.getElem_cons_succ, List.getElem_cons_zero, Act.put, List.setIfInBounds_toArray, List.set_cons_zero, List.set_cons_succ]
        refine wpAnyH_take (i := 9) (oi := _) (v := ?_) rfl (by kernel_rfl) (by kernel_rfl) (by kernel_rfl) (fun _ _ _ h => h) ?_ (by assumption) ?_
        rotate_left 1
        · first
            | (refine Or.inl ⟨by rfl, ?_⟩; intro w9 hSw; (try dsimp only at hSw); go_simp; (try with_reducible rfl); done)
            | (refine Or.inr ⟨by rfl, ?_⟩; rfl)
        simp only [List.getElem_toArray, List.getElem_cons_succ, List.getElem_cons_zero, Act.put, List.setIfInBounds_toArray, List.set_cons_zero, List.set_cons_succ]
        refine wpAnyH_done (by kernel_rfl) ?_ _
        have HFIN := Lib.hid hb3
        go_wp2_with fail
        go_meet
        exact ⟨bool_eq (by simp), HFIN.out⟩
      case rest =>
      obtain ⟨rfl, hbc⟩ := hcut
      generalize wc = w7 at hbc ⊢
      have y0 := hbc.keep (KY.out.at 0)
      have y1 := hbc.keep (KY.out.at 1)
      have y2 := hbc.keep (KY.out.at 2)
      have y3 := hbc.keep (KY.out.at 3)
      have HB7 := Lib.hid (L1.out.trans hbc)
      clear hbc c0 c1 c2 c3
      go_wp2_with fail
      refine (HNY.out _ HB7.out).mono ?_
      rintro e8 w8 ⟨rfl, hb8⟩
      replace y0 := hb8.keep y0
      replace y1 := hb8.keep y1
      replace y2 := hb8.keep y2
      replace y3 := hb8.keep y3
      have HB8 := Lib.hid (HB7.out.trans hb8)
      clear hb8
      go_wp2_with fail
      refine (HFY.out _ HB8.out).mono ?_
      rintro e9 w9 ⟨ya, yn, yc, rfl, hyn, hyr, hb9⟩
      obtain ⟨_, _, hynm⟩ := names_of_row0 hyr
      have HYN := Lib.hid hyn
      have HYM := Lib.hid hynm
      have HB9 := Lib.hid (HB8.out.trans hb9)
      have hyn2 : yn ≤ 1048577 := by rw [← hyn]; have := uniq_free_len y; omega
      clear y0 y1 y2 y3 hb9 hyn hyr hynm
      obtain ⟨wo, rfl⟩ : ∃ W, W = wr := ⟨_, rfl⟩
      go_wp2_with fail
      go_loopw [50] (fun i wr' => ∃ k : Nat, k ≤ yn ∧ i = .int .i64 k ∧ Bel w9 wr') (fun i _ => yn - (intOf i).toNat)
      case atStart => exact ⟨0, Nat.zero_le _, rfl, Bel.refl _⟩
      case round =>
        obtain ⟨k, hk, rfl, hbel⟩ := hrel
        have HBI := Lib.hid (HB9.out.trans hbel)
        have HBK := Lib.hid hbel
        clear hbel
        by_cases hkn : k < yn
        · have hki : (k : Int) < yn := by omega
          obtain ⟨z, hz⟩ : ∃ z, (uniqS (freeE y []))[k]? = some z := ⟨_, List.getElem?_eq_getElem (by have := HYN.out; omega)⟩
          obtain ⟨b2, o2, rfl, g0⟩ := HYM.out k z hz
          have f0 := HBK.out.keep g0
          have c0 := HBI.out.keep (HBL.out.keep C0.out)
          have c1 := HBI.out.keep (HBL.out.keep C1.out)
          have c2 := HBI.out.keep (HBL.out.keep C2.out)
          have c3 := HBI.out.keep (HBL.out.keep C3.out)
          have hzm := HPF.out z (List.mem_of_getElem? hz)
          have HWZ := Lib.hid (HWI.out wr (HBW.out.trans HBI.out) _ (HFR.out.bel (HBL.out.trans HBI.out)))
          obtain ⟨J, hJ⟩ : ∃ J, joinNew (uniqS (freeE e [])) (givenK e.k e.s e.ns j) = J := ⟨_, rfl⟩
          have hgl := HGL.out
          rw [hJ] at HWZ hzm hgl
          have HZM := Lib.hid hzm
          clear hz g0 hzm hJ
          go_wp2_with fail
          refine HWZ.out.mono ?_
          rintro e10 w10 ⟨ja, jn, jc, rfl, hjn, hjr, hb10⟩
          have HH := Lib.hid (rhas_c _ J z w10 hjr (by omega))
          rw [decide_eq_true HZM.out] at HH
          clear hjn hjr c0 c1 c2 c3 f0 HWZ
          go_wp2_with fail
          refine HH.out.mono ?_
          rintro e11 w11 ⟨rfl, hb11⟩
          go_wp2_with fail
          exact ⟨⟨k + 1, by omega, by go_num, HBK.out.trans (hb10.trans hb11)⟩, by simp [intOf]; omega⟩
        · obtain rfl : k = yn := by omega
          go_wp2_with fail
          exact ⟨⟨j + 1, q + cE y, by omega, by go_num, int_eq (by omega), by rw [HCT.out]; have := HQ.out; omega, HBL.out.trans HBI.out⟩, by simp [intOf]; omega⟩
    · obtain rfl : j = m := by omega
      have hqe : q = cE e := by
        have := HQ.out
        rw [List.take_of_length_le (by rw [HM.out]; exact Nat.le_refl _)] at this
        have := HCS.out
        omega
      subst hqe
      clear hlt
      go_wp2_with fail
      refine (HNX.out _ HBW.out).mono ?_
      rintro e8 w8 ⟨rfl, hb8⟩
      go_wp2_with fail
      go_ret
      exact ⟨rfl, HBW.out.trans hb8⟩
end Go.Proofs.YtgfikaagoflbbaaGreatDoor
