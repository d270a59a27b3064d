/-
  logic: the walk of the document's sameRules.
-/
import Derived.Test.YtchbhcjhoocjaaaGreatDoorRLE
namespace Go.Proofs.YtchbhcjhoocjaaaGreatDoor
open Go.RowKit

set_option maxRecDepth 100000 in
set_option maxHeartbeats 16000000 in
theorem rrules_c (l1 l2 : List Ru) (a1 a2 : Option Addr) (n1 c1 n2 c2 : Nat) (w : World) (h1 : l1.length = n1) (h2 : l2.length = n2) (hb1 : rbulks l1 ≤ 1073741820) (hb2 : rbulks l2 ≤ 1073741820) (hs1 : RusAt w a1 l1) (hs2 : RusAt w a2 l2) :
    Calls Tryz.prog 43 #[.slice a1 n1 c1, .slice a2 n2 c2] w (RetBel (.bool (samesR l1 l2)) w) := by
  have g1 : n1 ≤ 1073741824 := by have := rbulks_len l1; omega
  have g2 : n2 ≤ 1073741824 := by have := rbulks_len l2; omega
  have H1 := Lib.hid h1
  have H2 := Lib.hid h2
  have S1 := Lib.hid hs1
  have S2 := Lib.hid hs2
  have HB1 := Lib.hid (fun x (hx : x ∈ l1) => (show x.bulk ≤ 1073741820 by have := rbulks_mem hx; omega))
  have HB2 := Lib.hid (fun x (hx : x ∈ l2) => (show x.bulk ≤ 1073741820 by have := rbulks_mem hx; omega))
  rw [samesR_all]
  obtain ⟨R, hR⟩ : ∃ R, all2 sameR l1 l2 = R := ⟨_, rfl⟩
  rw [hR]
  have HR := Lib.hid hR
  clear hR h1 h2 hs1 hs2 hb1 hb2
  by_cases he : n1 = n2
  · subst he
    clear g2
    go_enter Tryz.func43, Tryz.ntmps43
    go_wp2_with fail
    go_loopw [5] (fun i wr => ∃ k : Nat, k ≤ n1 ∧ i = .int .i64 k ∧ Bel w wr ∧ all2 sameR (l1.drop k) (l2.drop k) = R) (fun i _ => n1 - (intOf i).toNat)
    case atStart => exact ⟨0, Nat.zero_le _, rfl, Bel.refl _, HR.out⟩
    case round =>
      obtain ⟨k, hk, rfl, hbel, htk⟩ := hrel
      by_cases hkn : k < n1
      · have hki : (k : Int) < n1 := by omega
        obtain ⟨x, hx⟩ : ∃ x, l1[k]? = some x := ⟨_, List.getElem?_eq_getElem (by have := H1.out; omega)⟩
        obtain ⟨y, hy⟩ : ∃ y, l2[k]? = some y := ⟨_, List.getElem?_eq_getElem (by have := H2.out; omega)⟩
        have hxb := HB1.out x (List.mem_of_getElem? hx)
        have hyb := HB2.out y (List.mem_of_getElem? hy)
        unfold Ru.bulk at hxb hyb
        rw [all2_drop sameR l1 l2 k x y hx hy] at htk
        obtain ⟨b1, o1, rfl, vi, vo, hxc, ⟨ta, tc, rfl, htc, hti⟩, xa, xc, rfl, hxc2, hxo⟩ := S1.out k x hx
        obtain ⟨b2, o2, rfl, vi2, vo2, hyc, ⟨ua, uc, rfl, huc, hui⟩, ya, yc, rfl, hyc2, hyo⟩ := S2.out k y hy
        obtain ⟨tn, htn⟩ : ∃ n, x.ins.length = n := ⟨_, rfl⟩
        obtain ⟨un, hun⟩ : ∃ n, y.ins.length = n := ⟨_, rfl⟩
        obtain ⟨xn, hxn⟩ : ∃ n, x.out.length = n := ⟨_, rfl⟩
        obtain ⟨yn, hyn⟩ : ∃ n, y.out.length = n := ⟨_, rfl⟩
        rw [htn] at hxc htc
        rw [hxn] at hxc hxc2
        rw [hun] at hyc huc
        rw [hyn] at hyc hyc2
        have f0 := hbel.keep hxc.get0
        have f1 := hbel.keep (hxc.get 1 rfl)
        have e0 := hbel.keep hyc.get0
        have e1 := hbel.keep (hyc.get 1 rfl)
        have t1 : tn ≤ 1073741824 := by have := tbulks_len x.ins; omega
        have t2 : un ≤ 1073741824 := by have := tbulks_len y.ins; omega
        have HSP := Lib.hid (fun W (hW : Bel w W) => rsame_parts x.out y.out xa ya xn xc yn yc W hxn hxc2 (hxo.bel hW) hyn hyc2 (hyo.bel hW) (by omega) (by omega))
        have HST := Lib.hid (fun (p : Nat) (s t : Te) vs vt W (hs : x.ins[p]? = some s) (ht : y.ins[p]? = some t) (h1 : TeV W s vs) (h2 : TeV W t vt) => rtsame_c s t vs vt W h1 h2 (by have := tbulks_mem (List.mem_of_getElem? hs); unfold Te.bulk at this; omega) (by have := tbulks_mem (List.mem_of_getElem? ht); unfold Te.bulk at this; omega))
        have HTI := Lib.hid hti
        have HUI := Lib.hid hui
        have HTN := Lib.hid htn
        have HUN := Lib.hid hun
        obtain ⟨S, hS⟩ : ∃ S, samesE x.out y.out = S := ⟨_, rfl⟩
        obtain ⟨T, hT⟩ : ∃ T, samesT x.ins y.ins = T := ⟨_, rfl⟩
        rw [show sameR x y = (samesT x.ins y.ins && samesE x.out y.out) from rfl, hS, hT] at htk
        rw [hS] at HSP
        have HTT := Lib.hid hT
        have HT := Lib.hid htk
        have HB := Lib.hid hbel
        clear hxc hyc hti hui hxo hyo hx hy hxb hyb hbel htk hS hT htn hun hxn hyn
        by_cases hlen : tn = un
        · subst hlen
          clear t2
          have hng : ((tn : Int) != tn) = false := by simp
          go_wp2_with fail
          refine wp_region_held_drew (S := fun w' => Bel wr w') (by kernel_rfl) (by (repeat (first | exact Bel.refl _ | assumption | refine Bel.to_drewN ?_ _ | refine Bel.to_drew ?_ | refine Bel.to_setCell ?_ (by first | exact Nat.le_refl _ | (simp; done) | (simp; omega) | omega) _ | refine Bel.to_alloc ?_ _ | refine Bel.trans ?_ (by assumption)))) (fun hHeld => ?_)
          refine wpAnyH_take (i := 0) (oi := _) (v := ?_) rfl (by kernel_rfl) (by kernel_rfl) (by kernel_rfl) (fun _ _ _ h => h) ?_ (by assumption) ?_
          rotate_left 1
          · first
              | (refine Or.inl ⟨by rfl, ?_⟩; intro w9 hSw; (try dsimp only at hSw); have e9_0 := Bel.keep hSw f0; have e9_1 := Bel.keep hSw f1; have e9_2 := Bel.keep hSw e0; have e9_3 := Bel.keep hSw e1; go_simp; (try with_reducible rfl); done)
              | (refine Or.inr ⟨by rfl, ?_⟩; rfl)
          simp only [List.getElem_toArray, List.getElem_cons_zero, Act.put, List.setIfInBounds_toArray, List.set_cons_zero, List.set_cons_succ]
          refine wpAnyH_take (i := 1) (oi := _) (v := ?_) rfl (by kernel_rfl) (by kernel_rfl) (by kernel_rfl) (fun _ _ _ h => h) ?_ (by assumption) ?_
          rotate_left 1
          · first
              | (refine Or.inl ⟨by rfl, ?_⟩; intro w9 hSw; (try dsimp only at hSw); have e9_0 := Bel.keep hSw f0; have e9_1 := Bel.keep hSw f1; have e9_2 := Bel.keep hSw e0; have e9_3 := Bel.keep hSw e1; go_simp; (try with_reducible rfl); done)
              | (refine Or.inr ⟨by rfl, ?_⟩; rfl)
          simp only [List.getElem_toArray, List.getElem_cons_succ, List.getElem_cons_zero, Act.put, List.setIfInBounds_toArray, List.set_cons_zero, List.set_cons_succ]
          refine wpAnyH_take (i := 2) (oi := _) (v := ?_) rfl (by kernel_rfl) (by kernel_rfl) (by kernel_rfl) (fun _ _ _ h => h) ?_ (by assumption) ?_
          rotate_left 1
          · first
              | (refine Or.inl ⟨by rfl, ?_⟩; intro w9 hSw; (try dsimp only at hSw); have e9_0 := Bel.keep hSw f0; have e9_1 := Bel.keep hSw f1; have e9_2 := Bel.keep hSw e0; have e9_3 := Bel.keep hSw e1; go_simp; (try with_reducible rfl); done)
              | (refine Or.inr ⟨by rfl, ?_⟩; rfl)
          simp only [List.getElem_toArray, List.getElem_cons_succ, List.getElem_cons_zero, Act.put, List.setIfInBounds_toArray, List.set_cons_zero, List.set_cons_succ]
          refine wpAnyH_take (i := 3) (oi := _) (v := ?_) rfl (by kernel_rfl) (by kernel_rfl) (by kernel_rfl) (fun _ _ _ h => h) ?_ (by assumption) ?_
          rotate_left 1
          · first
              | (refine Or.inl ⟨by rfl, ?_⟩; intro w9 hSw; (try dsimp only at hSw); have e9_0 := Bel.keep hSw f0; have e9_1 := Bel.keep hSw f1; have e9_2 := Bel.keep hSw e0; have e9_3 := Bel.keep hSw e1; go_simp; (try with_reducible rfl); done)
              | (refine Or.inr ⟨by rfl, ?_⟩; rfl)
          simp only [List.getElem_toArray, List.getElem_cons_succ, List.getElem_cons_zero, Act.put, List.setIfInBounds_toArray, List.set_cons_zero, List.set_cons_succ]
          refine wpAnyH_take (i := 4) (oi := _) (v := ?_) rfl (by kernel_rfl) (by kernel_rfl) (by kernel_rfl) (fun _ _ _ h => h) ?_ (by assumption) ?_
          rotate_left 1
          · first
              | (refine Or.inl ⟨by rfl, ?_⟩; intro w9 hSw; (try dsimp only at hSw); have e9_0 := Bel.keep hSw f0; have e9_1 := Bel.keep hSw f1; have e9_2 := Bel.keep hSw e0; have e9_3 := Bel.keep hSw e1; go_simp; (try with_reducible rfl); done)
              | (refine Or.inr ⟨by rfl, ?_⟩; rfl)
          simp only [List.getElem_toArray, List.getElem_cons_succ, List.getElem_cons_zero, Act.put, List.setIfInBounds_toArray, List.set_cons_zero, List.set_cons_succ]
          refine wpAnyH_take (i := 5) (oi := _) (v := ?_) rfl (by kernel_rfl) (by kernel_rfl) (by kernel_rfl) (fun _ _ _ h => h) ?_ (by assumption) ?_
          rotate_left 1
          · first
              | (refine Or.inl ⟨by rfl, ?_⟩; intro w9 hSw; (try dsimp only at hSw); have e9_0 := Bel.keep hSw f0; have e9_1 := Bel.keep hSw f1; have e9_2 := Bel.keep hSw e0; have e9_3 := Bel.keep hSw e1; go_simp; (try with_reducible rfl); done)
              | (refine Or.inr ⟨by rfl, ?_⟩; rfl)
          simp only [List.getElem_toArray, List.getElem_cons_succ, List.getElem_cons_zero, Act.put, List.setIfInBounds_toArray, List.set_cons_zero, List.set_cons_succ]
          refine wpAnyH_take (i := 6) (oi := _) (v := ?_) rfl (by kernel_rfl) (by kernel_rfl) (by kernel_rfl) (fun _ _ _ h => h) ?_ (by assumption) ?_
          rotate_left 1
          · first
              | (refine Or.inl ⟨by rfl, ?_⟩; intro w9 hSw; (try dsimp only at hSw); have e9_0 := Bel.keep hSw f0; have e9_1 := Bel.keep hSw f1; have e9_2 := Bel.keep hSw e0; have e9_3 := Bel.keep hSw e1; go_simp; (try with_reducible rfl); done)
              | (refine Or.inr ⟨by rfl, ?_⟩; rfl)
          simp only [List.getElem_toArray, List.getElem_cons_succ, List.getElem_cons_zero, Act.put, List.setIfInBounds_toArray, List.set_cons_zero, List.set_cons_succ]
          refine wpAnyH_take (i := 7) (oi := _) (v := ?_) rfl (by kernel_rfl) (by kernel_rfl) (by kernel_rfl) (fun _ _ _ h => h) ?_ (by assumption) ?_
          rotate_left 1
          · first
              | (refine Or.inl ⟨by rfl, ?_⟩; intro w9 hSw; (try dsimp only at hSw); have e9_0 := Bel.keep hSw f0; have e9_1 := Bel.keep hSw f1; have e9_2 := Bel.keep hSw e0; have e9_3 := Bel.keep hSw e1; go_simp; (try with_reducible rfl); done)
              | (refine Or.inr ⟨by rfl, ?_⟩; rfl)
          simp only [List.getElem_toArray, List.getElem_cons_succ, List.getElem_cons_zero, Act.put, List.setIfInBounds_toArray, List.set_cons_zero, List.set_cons_succ]
          refine wpAnyH_take (i := 8) (oi := _) (v := ?_) rfl (by kernel_rfl) (by kernel_rfl) (by kernel_rfl) (fun _ _ _ h => h) ?_ (by assumption) ?_
          rotate_left 1
          · first
              | (refine Or.inl ⟨by rfl, ?_⟩; intro w9 hSw; (try dsimp only at hSw); have e9_0 := Bel.keep hSw f0; have e9_1 := Bel.keep hSw f1; have e9_2 := Bel.keep hSw e0; have e9_3 := Bel.keep hSw e1; go_simp; (try with_reducible rfl); done)
              | (refine Or.inr ⟨by rfl, ?_⟩; rfl)
          simp only [List.getElem_toArray, List.getElem_cons_succ, List.getElem_cons_zero, Act.put, List.setIfInBounds_toArray, List.set_cons_zero, List.set_cons_succ]
          refine wpAnyH_take (i := 9) (oi := _) (v := ?_) rfl (by kernel_rfl) (by kernel_rfl) (by kernel_rfl) (fun _ _ _ h => h) ?_ (by assumption) ?_
          rotate_left 1
          · first
              | (refine Or.inl ⟨by rfl, ?_⟩; intro w9 hSw; (try dsimp only at hSw); have e9_0 := Bel.keep hSw f0; have e9_1 := Bel.keep hSw f1; have e9_2 := Bel.keep hSw e0; have e9_3 := Bel.keep hSw e1; go_simp; (try with_reducible rfl); done)
              | (refine Or.inr ⟨by rfl, ?_⟩; rfl)
          simp only [List.getElem_toArray, List.getElem_cons_succ, List.getElem_cons_zero, Act.put, List.setIfInBounds_toArray, List.set_cons_zero, List.set_cons_succ]
          refine wpAnyH_take (i := 10) (oi := _) (v := ?_) rfl (by kernel_rfl) (by kernel_rfl) (by kernel_rfl) (fun _ _ _ h => h) ?_ (by assumption) ?_
          rotate_left 1
          · first
              | (refine Or.inl ⟨by rfl, ?_⟩; intro w9 hSw; (try dsimp only at hSw); have e9_0 := Bel.keep hSw f0; have e9_1 := Bel.keep hSw f1; have e9_2 := Bel.keep hSw e0; have e9_3 := Bel.keep hSw e1; go_simp; (try with_reducible rfl); done)
              | (refine Or.inr ⟨by rfl, ?_⟩; rfl)
          simp only [List.getElem_toArray, List.getElem_cons_succ, List.getElem_cons_zero, Act.put, List.setIfInBounds_toArray, List.set_cons_zero, List.set_cons_succ]
          refine wpAnyH_take (i := 11) (oi := _) (v := ?_) rfl (by kernel_rfl) (by kernel_rfl) (by kernel_rfl) (fun _ _ _ h => h) ?_ (by assumption) ?_
          rotate_left 1
          · first
              | (refine Or.inl ⟨by rfl, ?_⟩; intro w9 hSw; (try dsimp only at hSw); have e9_0 := Bel.keep hSw f0; have e9_1 := Bel.keep hSw f1; have e9_2 := Bel.keep hSw e0; have e9_3 := Bel.keep hSw e1; go_simp; (try with_reducible rfl); done)
              | (refine Or.inr ⟨by rfl, ?_⟩; rfl)
          simp only [List.getElem_toArray, List.getElem_cons_succ, List.getElem_cons_zero, Act.put, List.setIfInBounds_toArray, List.set_cons_zero, List.set_cons_succ]
          refine wpAnyH_take (i := 12) (oi := _) (v := ?_) rfl (by kernel_rfl) (by kernel_rfl) (by kernel_rfl) (fun _ _ _ h => h) ?_ (by assumption) ?_
          rotate_left 1
          · first
              | (refine Or.inl ⟨by rfl, ?_⟩; intro w9 hSw; (try dsimp only at hSw); have e9_0 := Bel.keep hSw f0; have e9_1 := Bel.keep hSw f1; have e9_2 := Bel.keep hSw e0; have e9_3 := Bel.keep hSw e1; go_simp; (try with_reducible rfl); done)
              | (refine Or.inr ⟨by rfl, ?_⟩; rfl)
          simp only [List.getElem_toArray, List.getElem_cons_succ, List.getElem_cons_zero, Act.put, List.setIfInBounds_toArray, List.set_cons_zero, List.set_cons_succ]
          refine wpAnyH_take (i := 13) (oi := _) (v := ?_) rfl (by kernel_rfl) (by kernel_rfl) (by kernel_rfl) (fun _ _ _ h => h) ?_ (by assumption) ?_
          rotate_left 1
          · first
              | (refine Or.inl ⟨by rfl, ?_⟩; intro w9 hSw; (try dsimp only at hSw); have e9_0 := Bel.keep hSw f0; have e9_1 := Bel.keep hSw f1; have e9_2 := Bel.keep hSw e0; have e9_3 := Bel.keep hSw e1; go_simp; (try with_reducible rfl); done)
              | (refine Or.inr ⟨by rfl, ?_⟩; rfl)
          simp only [List.getElem_toArray, List.getElem_cons_succ, List.getElem_cons_zero, Act.put, List.setIfInBounds_toArray, List.set_cons_zero, List.set_cons_succ]
          refine wpAnyH_take (i := 14) (oi := _) (v := ?_) rfl (by kernel_rfl) (by kernel_rfl) (by kernel_rfl) (fun _ _ _ h => h) ?_ (by assumption) ?_
          rotate_left 1
          · first
              | (refine Or.inl ⟨by rfl, ?_⟩; intro w9 hSw; (try dsimp only at hSw); have e9_0 := Bel.keep hSw f0; have e9_1 := Bel.keep hSw f1; have e9_2 := Bel.keep hSw e0; have e9_3 := Bel.keep hSw e1; go_simp; (try with_reducible rfl); done)
              | (refine Or.inr ⟨by rfl, ?_⟩; rfl)
          simp only [List.getElem_toArray, List.getElem_cons_succ, List.getElem_cons_zero, Act.put, List.setIfInBounds_toArray, List.set_cons_zero, List.set_cons_succ]
          refine wpAnyH_take (i := 15) (oi := _) (v := ?_) rfl (by kernel_rfl) (by kernel_rfl) (by kernel_rfl) (fun _ _ _ h => h) ?_ (by assumption) ?_
          rotate_left 1
          · first
              | (refine Or.inl ⟨by rfl, ?_⟩; intro w9 hSw; (try dsimp only at hSw); have e9_0 := Bel.keep hSw f0; have e9_1 := Bel.keep hSw f1; have e9_2 := Bel.keep hSw e0; have e9_3 := Bel.keep hSw e1; go_simp; (try with_reducible rfl); done)
              | (refine Or.inr ⟨by rfl, ?_⟩; rfl)
          simp only [List.getElem_toArray, List.getElem_cons_succ, List.getElem_cons_zero, Act.put, List.setIfInBounds_toArray, List.set_cons_zero, List.set_cons_succ]
          refine wpAnyH_take (i := 16) (oi := _) (v := ?_) rfl (by kernel_rfl) (by kernel_rfl) (by kernel_rfl) (fun _ _ _ h => h) ?_ (by assumption) ?_
          rotate_left 1
          · first
              | (refine Or.inl ⟨by rfl, ?_⟩; intro w9 hSw; (try dsimp only at hSw); have e9_0 := Bel.keep hSw f0; have e9_1 := Bel.keep hSw f1; have e9_2 := Bel.keep hSw e0; have e9_3 := Bel.keep hSw e1; go_simp; (try with_reducible rfl); done)
              | (refine Or.inr ⟨by rfl, ?_⟩; rfl)
          simp only [List.getElem_toArray, List.getElem_cons_succ, List.getElem_cons_zero, Act.put, List.setIfInBounds_toArray, List.set_cons_zero, List.set_cons_succ]
          refine wpAnyH_take (i := 17) (oi := _) (v := ?_) rfl (by kernel_rfl) (by kernel_rfl) (by kernel_rfl) (fun _ _ _ h => h) ?_ (by assumption) ?_
          rotate_left 1
          · first
              | (refine Or.inl ⟨by rfl, ?_⟩; intro w9 hSw; (try dsimp only at hSw); have e9_0 := Bel.keep hSw f0; have e9_1 := Bel.keep hSw f1; have e9_2 := Bel.keep hSw e0; have e9_3 := Bel.keep hSw e1; go_simp; (try with_reducible rfl); done)
              | (refine Or.inr ⟨by rfl, ?_⟩; rfl)
          simp only [List.getElem_toArray, List.getElem_cons_succ, List.getElem_cons_zero, Act.put, List.setIfInBounds_toArray, List.set_cons_zero, List.set_cons_succ]
          refine wpAnyH_take (i := 18) (oi := _) (v := ?_) rfl (by kernel_rfl) (by kernel_rfl) (by kernel_rfl) (fun _ _ _ h => h) ?_ (by assumption) ?_
          rotate_left 1
          · first
              | (refine Or.inl ⟨by rfl, ?_⟩; intro w9 hSw; (try dsimp only at hSw); have e9_0 := Bel.keep hSw f0; have e9_1 := Bel.keep hSw f1; have e9_2 := Bel.keep hSw e0; have e9_3 := Bel.keep hSw e1; go_simp; (try with_reducible rfl); done)
              | (refine Or.inr ⟨by rfl, ?_⟩; rfl)
          simp only [List.getElem_toArray, List.getElem_cons_succ, List.getElem_cons_zero, Act.put, List.setIfInBounds_toArray, List.set_cons_zero, List.set_cons_succ]
          refine wpAnyH_take (i := 19) (oi := _) (v := ?_) rfl (by kernel_rfl) (by kernel_rfl) (by kernel_rfl) (fun _ _ _ h => h) ?_ (by assumption) ?_
          rotate_left 1
          · first
              | (refine Or.inl ⟨by rfl, ?_⟩; intro w9 hSw; (try dsimp only at hSw); have e9_0 := Bel.keep hSw f0; have e9_1 := Bel.keep hSw f1; have e9_2 := Bel.keep hSw e0; have e9_3 := Bel.keep hSw e1; go_simp; (try with_reducible rfl); done)
              | (refine Or.inr ⟨by rfl, ?_⟩; rfl)
          simp only [List.getElem_toArray, List.getElem_cons_succ, List.getElem_cons_zero, Act.put, List.setIfInBounds_toArray, List.set_cons_zero, List.set_cons_succ]
          refine wpAnyH_take (i := 20) (oi := _) (v := ?_) rfl (by kernel_rfl) (by kernel_rfl) (by kernel_rfl) (fun _ _ _ h => h) ?_ (by assumption) ?_
          rotate_left 1
          · first
              | (refine Or.inl ⟨by rfl, ?_⟩; intro w9 hSw; (try dsimp only at hSw); have e9_0 := Bel.keep hSw f0; have e9_1 := Bel.keep hSw f1; have e9_2 := Bel.keep hSw e0; have e9_3 := Bel.keep hSw e1; go_simp; (try with_reducible rfl); done)
              | (refine Or.inr ⟨by rfl, ?_⟩; rfl)
          simp only [List.getElem_toArray, List.getElem_cons_succ, List.getElem_cons_zero, Act.put, List.setIfInBounds_toArray, List.set_cons_zero, List.set_cons_succ]
          refine wpAnyH_take (i := 21) (oi := _) (v := ?_) rfl (by kernel_rfl) (by kernel_rfl) (by kernel_rfl) (fun _ _ _ h => h) ?_ (by assumption) ?_
          rotate_left 1
          · first
              | (refine Or.inl ⟨by rfl, ?_⟩; intro w9 hSw; (try dsimp only at hSw); have e9_0 := Bel.keep hSw f0; have e9_1 := Bel.keep hSw f1; have e9_2 := Bel.keep hSw e0; have e9_3 := Bel.keep hSw e1; go_simp; (try with_reducible rfl); done)
              | (refine Or.inr ⟨by rfl, ?_⟩; rfl)
          simp only [List.getElem_toArray, List.getElem_cons_succ, List.getElem_cons_zero, Act.put, List.setIfInBounds_toArray, List.set_cons_zero, List.set_cons_succ]
          refine wpAnyH_take (i := 22) (oi := _) (v := ?_) rfl (by kernel_rfl) (by kernel_rfl) (by kernel_rfl) (fun _ _ _ h => h) ?_ (by assumption) ?_
          rotate_left 1
          · first
              | (refine Or.inl ⟨by rfl, ?_⟩; intro w9 hSw; (try dsimp only at hSw); have e9_0 := Bel.keep hSw f0; have e9_1 := Bel.keep hSw f1; have e9_2 := Bel.keep hSw e0; have e9_3 := Bel.keep hSw e1; go_simp; (try with_reducible rfl); done)
              | (refine Or.inr ⟨by rfl, ?_⟩; rfl)
          simp only [List.getElem_toArray, List.getElem_cons_succ, List.getElem_cons_zero, Act.put, List.setIfInBounds_toArray, List.set_cons_zero, List.set_cons_succ]
          refine wpAnyH_take (i := 23) (oi := _) (v := ?_) rfl (by kernel_rfl) (by kernel_rfl) (by kernel_rfl) (fun _ _ _ h => h) ?_ (by assumption) ?_
          rotate_left 1
          · first
              | (refine Or.inl ⟨by rfl, ?_⟩; intro w9 hSw; (try dsimp only at hSw); have e9_0 := Bel.keep hSw f0; have e9_1 := Bel.keep hSw f1; have e9_2 := Bel.keep hSw e0; have e9_3 := Bel.keep hSw e1; go_simp; (try with_reducible rfl); done)
              | (refine Or.inr ⟨by rfl, ?_⟩; rfl)
          simp only [List.getElem_toArray, List.getElem_cons_succ, List.getElem_cons_zero, Act.put, List.setIfInBounds_toArray, List.set_cons_zero, List.set_cons_succ]
          refine wpAnyH_take (i := 24) (oi := _) (v := ?_) rfl (by kernel_rfl) (by kernel_rfl) (by kernel_rfl) (fun _ _ _ h => h) ?_ (by assumption) ?_
          rotate_left 1
          · first
              | (refine Or.inl ⟨by rfl, ?_⟩; intro w9 hSw; (try dsimp only at hSw); have e9_0 := Bel.keep hSw f0; have e9_1 := Bel.keep hSw f1; have e9_2 := Bel.keep hSw e0; have e9_3 := Bel.keep hSw e1; go_simp; (try with_reducible rfl); done)
              | (refine Or.inr ⟨by rfl, ?_⟩; rfl)
          simp only [List.getElem_toArray, List.getElem_cons_succ, List.getElem_cons_zero, Act.put, List.setIfInBounds_toArray, List.set_cons_zero, List.set_cons_succ]
          refine wpAnyH_take (i := 25) (oi := _) (v := ?_) rfl (by kernel_rfl) (by kernel_rfl) (by kernel_rfl) (fun _ _ _ h => h) ?_ (by assumption) ?_
          rotate_left 1
          · first
              | (refine Or.inl ⟨by rfl, ?_⟩; intro w9 hSw; (try dsimp only at hSw); have e9_0 := Bel.keep hSw f0; have e9_1 := Bel.keep hSw f1; have e9_2 := Bel.keep hSw e0; have e9_3 := Bel.keep hSw e1; go_simp; (try with_reducible rfl); done)
              | (refine Or.inr ⟨by rfl, ?_⟩; rfl)
          simp only [List.getElem_toArray, List.getElem_cons_succ, List.getElem_cons_zero, Act.put, List.setIfInBounds_toArray, List.set_cons_zero, List.set_cons_succ]
          refine wpAnyH_ready (rs := [26]) (by kernel_rfl) (by simp) ?_
          refine AllReadyH.cons (o := _) rfl (fun K hK => ?_) AllReadyH.nil
          go_simp
          go_at_call 41
          refine (HSP.out _ (HB.out.trans hHeld)).mono ?_
          rintro e5 w5 ⟨rfl, hb5⟩
          dsimp only
          have hb6 := hHeld.trans hb5
          refine hK.out _ _ hb6 (fun hHeld => ?_)
          clear hK K
          refine wpAnyH_take (i := 27) (oi := _) (v := ?_) rfl (by kernel_rfl) (by kernel_rfl) (by kernel_rfl) (fun _ _ _ h => h) ?_ (by assumption) ?_
          rotate_left 1
          · first
              | (refine Or.inl ⟨by rfl, ?_⟩; intro w9 hSw; (try dsimp only at hSw); go_simp; (try with_reducible rfl); done)
              | (refine Or.inr ⟨by rfl, ?_⟩; rfl)
          simp only [List.getElem_toArray, List.getElem_cons_succ, List.getElem_cons_zero, Act.put, List.setIfInBounds_toArray, List.set_cons_zero, List.set_cons_succ]
          refine wpAnyH_take (i := 28) (oi := _) (v := ?_) rfl (by kernel_rfl) (by kernel_rfl) (by kernel_rfl) (fun _ _ _ h => h) ?_ (by assumption) ?_
          rotate_left 1
          · first
              | (refine Or.inl ⟨by rfl, ?_⟩; intro w9 hSw; (try dsimp only at hSw); go_simp; (try with_reducible rfl); done)
              | (refine Or.inr ⟨by rfl, ?_⟩; rfl)
          simp only [List.getElem_toArray, List.getElem_cons_succ, List.getElem_cons_zero, Act.put, List.setIfInBounds_toArray, List.set_cons_zero, List.set_cons_succ]
          refine wpAnyH_done (by kernel_rfl) ?_ _
          have F0 := Lib.hid (hb6.keep f0)
          have E0 := Lib.hid (hb6.keep e0)
          have HB6 := Lib.hid (HB.out.trans hb6)
          clear hHeld hb5 hb6 f0 f1 e0 e1 hng HSP
          cases S with
          | false =>
            have hf : R = false := by rw [← HT.out]; simp
            subst hf
            clear HT HR
            go_wp2_with fail
            go_ret
            exact ⟨rfl, HB6.out⟩
          | true =>
          obtain ⟨wo, rfl⟩ : ∃ W, W = w5 := ⟨_, rfl⟩
          go_wp2_with fail
          go_loopw [6] (fun i wr => ∃ p : Nat, p ≤ tn ∧ i = .int .i64 p ∧ Bel wo wr ∧ all2 sameT (x.ins.drop p) (y.ins.drop p) = T) (fun i _ => tn - (intOf i).toNat)
          case atStart => exact ⟨0, Nat.zero_le _, rfl, Bel.refl _, by rw [← HTT.out, samesT_all]; rfl⟩
          case round =>
            obtain ⟨p, hp, rfl, hbel, hd⟩ := hrel
            have f0 := hbel.keep F0.out
            have e0 := hbel.keep E0.out
            by_cases hpn : p < tn
            · have hpi : (p : Int) < tn := by omega
              obtain ⟨s, hs⟩ : ∃ s, x.ins[p]? = some s := ⟨_, List.getElem?_eq_getElem (by have := HTN.out; omega)⟩
              obtain ⟨t, ht⟩ : ∃ t, y.ins[p]? = some t := ⟨_, List.getElem?_eq_getElem (by have := HUN.out; omega)⟩
              obtain ⟨b3, o3, rfl, v3, hc3, za, zc, rfl, hzc, hzo⟩ := HTI.out p s hs
              obtain ⟨b4, o4, rfl, v4, hc4, va, vc, rfl, hvc, hvo⟩ := HUI.out p t ht
              obtain ⟨zn, hzn⟩ : ∃ n, s.l.length = n := ⟨_, rfl⟩
              obtain ⟨vn, hvn⟩ : ∃ n, t.l.length = n := ⟨_, rfl⟩
              rw [hzn] at hc3 hzc
              rw [hvn] at hc4 hvc
              have hbw := HB6.out.trans hbel
              have i0 := hbw.keep hc3.get0
              have i1 := hbw.keep (hc3.get 1 rfl)
              have i2 := hbw.keep (hc3.get 2 rfl)
              have j0 := hbw.keep hc4.get0
              have j1 := hbw.keep (hc4.get 1 rfl)
              have j2 := hbw.keep (hc4.get 2 rfl)
              have HC := Lib.hid (fun W (hW : Bel w W) => HST.out p s t (.agg #[.bool s.any, .bool s.no, .slice za zn zc]) (.agg #[.bool t.any, .bool t.no, .slice va vn vc]) W hs ht ⟨_, _, _, rfl, hzn, hzc, hzo.bel hW⟩ ⟨_, _, _, rfl, hvn, hvc, hvo.bel hW⟩)
              rw [all2_drop sameT x.ins y.ins p s t hs ht] at hd
              obtain ⟨r, hr⟩ : ∃ r, sameT s t = r := ⟨_, rfl⟩
              rw [hr] at HC hd
              have HD := Lib.hid hd
              have HBL := Lib.hid hbel
              have HBW := Lib.hid hbw
              clear hc3 hc4 hzo hvo hs ht hr hd hbel hbw hzn hvn
              go_wp2_with fail
              refine wp_region_held_drew (S := fun w' => Bel wr w') (by kernel_rfl) (by (repeat (first | exact Bel.refl _ | assumption | refine Bel.to_drewN ?_ _ | refine Bel.to_drew ?_ | refine Bel.to_setCell ?_ (by first | exact Nat.le_refl _ | (simp; done) | (simp; omega) | omega) _ | refine Bel.to_alloc ?_ _ | refine Bel.trans ?_ (by assumption)))) (fun hHeld => ?_)
              refine wpAnyH_take (i := 0) (oi := _) (v := ?_) rfl (by kernel_rfl) (by kernel_rfl) (by kernel_rfl) (fun _ _ _ h => h) ?_ (by assumption) ?_
              rotate_left 1
              · first
                  | (refine Or.inl ⟨by rfl, ?_⟩; intro w9 hSw; (try dsimp only at hSw); have e9_0 := Bel.keep hSw f0; have e9_1 := Bel.keep hSw e0; have e9_2 := Bel.keep hSw i0; have e9_3 := Bel.keep hSw i1; have e9_4 := Bel.keep hSw i2; have e9_5 := Bel.keep hSw j0; have e9_6 := Bel.keep hSw j1; have e9_7 := Bel.keep hSw j2; go_simp; (try with_reducible rfl); done)
                  | (refine Or.inr ⟨by rfl, ?_⟩; rfl)
              simp only [List.getElem_toArray, List.getElem_cons_zero, Act.put, List.setIfInBounds_toArray, List.set_cons_zero, List.set_cons_succ]
              refine wpAnyH_take (i := 1) (oi := _) (v := ?_) rfl (by kernel_rfl) (by kernel_rfl) (by kernel_rfl) (fun _ _ _ h => h) ?_ (by assumption) ?_
              rotate_left 1
              · first
                  | (refine Or.inl ⟨by rfl, ?_⟩; intro w9 hSw; (try dsimp only at hSw); have e9_0 := Bel.keep hSw f0; have e9_1 := Bel.keep hSw e0; have e9_2 := Bel.keep hSw i0; have e9_3 := Bel.keep hSw i1; have e9_4 := Bel.keep hSw i2; have e9_5 := Bel.keep hSw j0; have e9_6 := Bel.keep hSw j1; have e9_7 := Bel.keep hSw j2; go_simp; (try with_reducible rfl); done)
                  | (refine Or.inr ⟨by rfl, ?_⟩; rfl)
              simp only [List.getElem_toArray, List.getElem_cons_succ, List.getElem_cons_zero, Act.put, List.setIfInBounds_toArray, List.set_cons_zero, List.set_cons_succ]
              refine wpAnyH_take (i := 2) (oi := _) (v := ?_) rfl (by kernel_rfl) (by kernel_rfl) (by kernel_rfl) (fun _ _ _ h => h) ?_ (by assumption) ?_
              rotate_left 1
              · first
                  | (refine Or.inl ⟨by rfl, ?_⟩; intro w9 hSw; (try dsimp only at hSw); have e9_0 := Bel.keep hSw f0; have e9_1 := Bel.keep hSw e0; have e9_2 := Bel.keep hSw i0; have e9_3 := Bel.keep hSw i1; have e9_4 := Bel.keep hSw i2; have e9_5 := Bel.keep hSw j0; have e9_6 := Bel.keep hSw j1; have e9_7 := Bel.keep hSw j2; go_simp; (try with_reducible rfl); done)
                  | (refine Or.inr ⟨by rfl, ?_⟩; rfl)
              simp only [List.getElem_toArray, List.getElem_cons_succ, List.getElem_cons_zero, Act.put, List.setIfInBounds_toArray, List.set_cons_zero, List.set_cons_succ]
              refine wpAnyH_take (i := 3) (oi := _) (v := ?_) rfl (by kernel_rfl) (by kernel_rfl) (by kernel_rfl) (fun _ _ _ h => h) ?_ (by assumption) ?_
              rotate_left 1
              · first
                  | (refine Or.inl ⟨by rfl, ?_⟩; intro w9 hSw; (try dsimp only at hSw); have e9_0 := Bel.keep hSw f0; have e9_1 := Bel.keep hSw e0; have e9_2 := Bel.keep hSw i0; have e9_3 := Bel.keep hSw i1; have e9_4 := Bel.keep hSw i2; have e9_5 := Bel.keep hSw j0; have e9_6 := Bel.keep hSw j1; have e9_7 := Bel.keep hSw j2; go_simp; (try with_reducible rfl); done)
                  | (refine Or.inr ⟨by rfl, ?_⟩; rfl)
              simp only [List.getElem_toArray, List.getElem_cons_succ, List.getElem_cons_zero, Act.put, List.setIfInBounds_toArray, List.set_cons_zero, List.set_cons_succ]
              refine wpAnyH_take (i := 4) (oi := _) (v := ?_) rfl (by kernel_rfl) (by kernel_rfl) (by kernel_rfl) (fun _ _ _ h => h) ?_ (by assumption) ?_
              rotate_left 1
              · first
                  | (refine Or.inl ⟨by rfl, ?_⟩; intro w9 hSw; (try dsimp only at hSw); have e9_0 := Bel.keep hSw f0; have e9_1 := Bel.keep hSw e0; have e9_2 := Bel.keep hSw i0; have e9_3 := Bel.keep hSw i1; have e9_4 := Bel.keep hSw i2; have e9_5 := Bel.keep hSw j0; have e9_6 := Bel.keep hSw j1; have e9_7 := Bel.keep hSw j2; go_simp; (try with_reducible rfl); done)
                  | (refine Or.inr ⟨by rfl, ?_⟩; rfl)
              simp only [List.getElem_toArray, List.getElem_cons_succ, List.getElem_cons_zero, Act.put, List.setIfInBounds_toArray, List.set_cons_zero, List.set_cons_succ]
              refine wpAnyH_take (i := 5) (oi := _) (v := ?_) rfl (by kernel_rfl) (by kernel_rfl) (by kernel_rfl) (fun _ _ _ h => h) ?_ (by assumption) ?_
              rotate_left 1
              · first
                  | (refine Or.inl ⟨by rfl, ?_⟩; intro w9 hSw; (try dsimp only at hSw); have e9_0 := Bel.keep hSw f0; have e9_1 := Bel.keep hSw e0; have e9_2 := Bel.keep hSw i0; have e9_3 := Bel.keep hSw i1; have e9_4 := Bel.keep hSw i2; have e9_5 := Bel.keep hSw j0; have e9_6 := Bel.keep hSw j1; have e9_7 := Bel.keep hSw j2; go_simp; (try with_reducible rfl); done)
                  | (refine Or.inr ⟨by rfl, ?_⟩; rfl)
              simp only [List.getElem_toArray, List.getElem_cons_succ, List.getElem_cons_zero, Act.put, List.setIfInBounds_toArray, List.set_cons_zero, List.set_cons_succ]
              refine wpAnyH_take (i := 6) (oi := _) (v := ?_) rfl (by kernel_rfl) (by kernel_rfl) (by kernel_rfl) (fun _ _ _ h => h) ?_ (by assumption) ?_
              rotate_left 1
              · first
                  | (refine Or.inl ⟨by rfl, ?_⟩; intro w9 hSw; (try dsimp only at hSw); have e9_0 := Bel.keep hSw f0; have e9_1 := Bel.keep hSw e0; have e9_2 := Bel.keep hSw i0; have e9_3 := Bel.keep hSw i1; have e9_4 := Bel.keep hSw i2; have e9_5 := Bel.keep hSw j0; have e9_6 := Bel.keep hSw j1; have e9_7 := Bel.keep hSw j2; go_simp; (try with_reducible rfl); done)
                  | (refine Or.inr ⟨by rfl, ?_⟩; rfl)
              simp only [List.getElem_toArray, List.getElem_cons_succ, List.getElem_cons_zero, Act.put, List.setIfInBounds_toArray, List.set_cons_zero, List.set_cons_succ]
              refine wpAnyH_take (i := 7) (oi := _) (v := ?_) rfl (by kernel_rfl) (by kernel_rfl) (by kernel_rfl) (fun _ _ _ h => h) ?_ (by assumption) ?_
              rotate_left 1
              · first
                  | (refine Or.inl ⟨by rfl, ?_⟩; intro w9 hSw; (try dsimp only at hSw); have e9_0 := Bel.keep hSw f0; have e9_1 := Bel.keep hSw e0; have e9_2 := Bel.keep hSw i0; have e9_3 := Bel.keep hSw i1; have e9_4 := Bel.keep hSw i2; have e9_5 := Bel.keep hSw j0; have e9_6 := Bel.keep hSw j1; have e9_7 := Bel.keep hSw j2; go_simp; (try with_reducible rfl); done)
                  | (refine Or.inr ⟨by rfl, ?_⟩; rfl)
              simp only [List.getElem_toArray, List.getElem_cons_succ, List.getElem_cons_zero, Act.put, List.setIfInBounds_toArray, List.set_cons_zero, List.set_cons_succ]
              refine wpAnyH_take (i := 8) (oi := _) (v := ?_) rfl (by kernel_rfl) (by kernel_rfl) (by kernel_rfl) (fun _ _ _ h => h) ?_ (by assumption) ?_
              rotate_left 1
              · first
                  | (refine Or.inl ⟨by rfl, ?_⟩; intro w9 hSw; (try dsimp only at hSw); have e9_0 := Bel.keep hSw f0; have e9_1 := Bel.keep hSw e0; have e9_2 := Bel.keep hSw i0; have e9_3 := Bel.keep hSw i1; have e9_4 := Bel.keep hSw i2; have e9_5 := Bel.keep hSw j0; have e9_6 := Bel.keep hSw j1; have e9_7 := Bel.keep hSw j2; go_simp; (try with_reducible rfl); done)
                  | (refine Or.inr ⟨by rfl, ?_⟩; rfl)
              simp only [List.getElem_toArray, List.getElem_cons_succ, List.getElem_cons_zero, Act.put, List.setIfInBounds_toArray, List.set_cons_zero, List.set_cons_succ]
              refine wpAnyH_take (i := 9) (oi := _) (v := ?_) rfl (by kernel_rfl) (by kernel_rfl) (by kernel_rfl) (fun _ _ _ h => h) ?_ (by assumption) ?_
              rotate_left 1
              · first
                  | (refine Or.inl ⟨by rfl, ?_⟩; intro w9 hSw; (try dsimp only at hSw); have e9_0 := Bel.keep hSw f0; have e9_1 := Bel.keep hSw e0; have e9_2 := Bel.keep hSw i0; have e9_3 := Bel.keep hSw i1; have e9_4 := Bel.keep hSw i2; have e9_5 := Bel.keep hSw j0; have e9_6 := Bel.keep hSw j1; have e9_7 := Bel.keep hSw j2; go_simp; (try with_reducible rfl); done)
                  | (refine Or.inr ⟨by rfl, ?_⟩; rfl)
              simp only [List.getElem_toArray, List.getElem_cons_succ, List.getElem_cons_zero, Act.put, List.setIfInBounds_toArray, List.set_cons_zero, List.set_cons_succ]
              refine wpAnyH_take (i := 10) (oi := _) (v := ?_) rfl (by kernel_rfl) (by kernel_rfl) (by kernel_rfl) (fun _ _ _ h => h) ?_ (by assumption) ?_
              rotate_left 1
              · first
                  | (refine Or.inl ⟨by rfl, ?_⟩; intro w9 hSw; (try dsimp only at hSw); have e9_0 := Bel.keep hSw f0; have e9_1 := Bel.keep hSw e0; have e9_2 := Bel.keep hSw i0; have e9_3 := Bel.keep hSw i1; have e9_4 := Bel.keep hSw i2; have e9_5 := Bel.keep hSw j0; have e9_6 := Bel.keep hSw j1; have e9_7 := Bel.keep hSw j2; go_simp; (try with_reducible rfl); done)
                  | (refine Or.inr ⟨by rfl, ?_⟩; rfl)
              simp only [List.getElem_toArray, List.getElem_cons_succ, List.getElem_cons_zero, Act.put, List.setIfInBounds_toArray, List.set_cons_zero, List.set_cons_succ]
              refine wpAnyH_take (i := 11) (oi := _) (v := ?_) rfl (by kernel_rfl) (by kernel_rfl) (by kernel_rfl) (fun _ _ _ h => h) ?_ (by assumption) ?_
              rotate_left 1
              · first
                  | (refine Or.inl ⟨by rfl, ?_⟩; intro w9 hSw; (try dsimp only at hSw); have e9_0 := Bel.keep hSw f0; have e9_1 := Bel.keep hSw e0; have e9_2 := Bel.keep hSw i0; have e9_3 := Bel.keep hSw i1; have e9_4 := Bel.keep hSw i2; have e9_5 := Bel.keep hSw j0; have e9_6 := Bel.keep hSw j1; have e9_7 := Bel.keep hSw j2; go_simp; (try with_reducible rfl); done)
                  | (refine Or.inr ⟨by rfl, ?_⟩; rfl)
              simp only [List.getElem_toArray, List.getElem_cons_succ, List.getElem_cons_zero, Act.put, List.setIfInBounds_toArray, List.set_cons_zero, List.set_cons_succ]
              refine wpAnyH_take (i := 12) (oi := _) (v := ?_) rfl (by kernel_rfl) (by kernel_rfl) (by kernel_rfl) (fun _ _ _ h => h) ?_ (by assumption) ?_
              rotate_left 1
              · first
                  | (refine Or.inl ⟨by rfl, ?_⟩; intro w9 hSw; (try dsimp only at hSw); have e9_0 := Bel.keep hSw f0; have e9_1 := Bel.keep hSw e0; have e9_2 := Bel.keep hSw i0; have e9_3 := Bel.keep hSw i1; have e9_4 := Bel.keep hSw i2; have e9_5 := Bel.keep hSw j0; have e9_6 := Bel.keep hSw j1; have e9_7 := Bel.keep hSw j2; go_simp; (try with_reducible rfl); done)
                  | (refine Or.inr ⟨by rfl, ?_⟩; rfl)
              simp only [List.getElem_toArray, List.getElem_cons_succ, List.getElem_cons_zero, Act.put, List.setIfInBounds_toArray, List.set_cons_zero, List.set_cons_succ]
              refine wpAnyH_take (i := 13) (oi := _) (v := ?_) rfl (by kernel_rfl) (by kernel_rfl) (by kernel_rfl) (fun _ _ _ h => h) ?_ (by assumption) ?_
              rotate_left 1
              · first
                  | (refine Or.inl ⟨by rfl, ?_⟩; intro w9 hSw; (try dsimp only at hSw); have e9_0 := Bel.keep hSw f0; have e9_1 := Bel.keep hSw e0; have e9_2 := Bel.keep hSw i0; have e9_3 := Bel.keep hSw i1; have e9_4 := Bel.keep hSw i2; have e9_5 := Bel.keep hSw j0; have e9_6 := Bel.keep hSw j1; have e9_7 := Bel.keep hSw j2; go_simp; (try with_reducible rfl); done)
                  | (refine Or.inr ⟨by rfl, ?_⟩; rfl)
              simp only [List.getElem_toArray, List.getElem_cons_succ, List.getElem_cons_zero, Act.put, List.setIfInBounds_toArray, List.set_cons_zero, List.set_cons_succ]
              refine wpAnyH_take (i := 14) (oi := _) (v := ?_) rfl (by kernel_rfl) (by kernel_rfl) (by kernel_rfl) (fun _ _ _ h => h) ?_ (by assumption) ?_
              rotate_left 1
              · first
                  | (refine Or.inl ⟨by rfl, ?_⟩; intro w9 hSw; (try dsimp only at hSw); have e9_0 := Bel.keep hSw f0; have e9_1 := Bel.keep hSw e0; have e9_2 := Bel.keep hSw i0; have e9_3 := Bel.keep hSw i1; have e9_4 := Bel.keep hSw i2; have e9_5 := Bel.keep hSw j0; have e9_6 := Bel.keep hSw j1; have e9_7 := Bel.keep hSw j2; go_simp; (try with_reducible rfl); done)
                  | (refine Or.inr ⟨by rfl, ?_⟩; rfl)
              simp only [List.getElem_toArray, List.getElem_cons_succ, List.getElem_cons_zero, Act.put, List.setIfInBounds_toArray, List.set_cons_zero, List.set_cons_succ]
              refine wpAnyH_take (i := 15) (oi := _) (v := ?_) rfl (by kernel_rfl) (by kernel_rfl) (by kernel_rfl) (fun _ _ _ h => h) ?_ (by assumption) ?_
              rotate_left 1
              · first
                  | (refine Or.inl ⟨by rfl, ?_⟩; intro w9 hSw; (try dsimp only at hSw); have e9_0 := Bel.keep hSw f0; have e9_1 := Bel.keep hSw e0; have e9_2 := Bel.keep hSw i0; have e9_3 := Bel.keep hSw i1; have e9_4 := Bel.keep hSw i2; have e9_5 := Bel.keep hSw j0; have e9_6 := Bel.keep hSw j1; have e9_7 := Bel.keep hSw j2; go_simp; (try with_reducible rfl); done)
                  | (refine Or.inr ⟨by rfl, ?_⟩; rfl)
              simp only [List.getElem_toArray, List.getElem_cons_succ, List.getElem_cons_zero, Act.put, List.setIfInBounds_toArray, List.set_cons_zero, List.set_cons_succ]
              refine wpAnyH_ready (rs := [16]) (by kernel_rfl) (by simp) ?_
              refine AllReadyH.cons (o := _) rfl (fun K hK => ?_) AllReadyH.nil
              go_simp
              go_at_call 80
              refine (HC.out _ (HBW.out.trans hHeld)).mono ?_
              rintro e7 w7 ⟨rfl, hb7⟩
              dsimp only
              have hb8 := hHeld.trans hb7
              refine hK.out _ _ hb8 (fun hHeld => ?_)
              clear hK K
              refine wpAnyH_take (i := 17) (oi := _) (v := ?_) rfl (by kernel_rfl) (by kernel_rfl) (by kernel_rfl) (fun _ _ _ h => h) ?_ (by assumption) ?_
              rotate_left 1
              · first
                  | (refine Or.inl ⟨by rfl, ?_⟩; intro w9 hSw; (try dsimp only at hSw); go_simp; (try with_reducible rfl); done)
                  | (refine Or.inr ⟨by rfl, ?_⟩; rfl)
              simp only [List.getElem_toArray, List.getElem_cons_succ, List.getElem_cons_zero, Act.put, List.setIfInBounds_toArray, List.set_cons_zero, List.set_cons_succ]
              refine wpAnyH_done (by kernel_rfl) ?_ _
              have HB8 := Lib.hid hb8
              clear hHeld hb7 hb8 f0 e0 i0 i1 i2 j0 j1 j2
              cases r with
              | false =>
                have hf : R = false := by
                  have h3 := HD.out
                  rw [Bool.false_and] at h3
                  rw [← HT.out, ← h3]
                  simp
                subst hf
                clear HT HR
                go_wp2_with fail
                go_ret
                exact ⟨rfl, HBW.out.trans HB8.out⟩
              | true =>
                go_wp2_with fail
                refine ⟨?_, by simp [intOf]; omega⟩
                repeat apply Exists.intro
                refine ⟨?_, rfl⟩
                exact ⟨p + 1, by omega, by go_num, HBL.out.trans HB8.out, by have := HD.out; simpa using this⟩
            · obtain rfl : p = tn := by omega
              have hT : T = true := by rw [← hd, all2_end sameT x.ins y.ins p (by have := HTN.out; omega) (by have := HUN.out; omega)]
              have h3 := HT.out
              rw [hT, Bool.true_and, Bool.true_and] at h3
              have HT3 := Lib.hid h3
              have HBW := Lib.hid (HB6.out.trans hbel)
              clear h3 hT hd hbel HT HTT hpn
              go_wp2_with fail
              exact ⟨⟨k + 1, by omega, by go_num, HBW.out, HT3.out⟩, by simp [intOf]; omega⟩
        · have hng : ((tn : Int) != un) = true := by simp; omega
          have hf : R = false := by
            have h3 : T = false := by rw [← HTT.out, samesT_all]; exact all2_len sameT _ _ (by rw [HTN.out, HUN.out]; exact hlen)
            rw [← HT.out, h3]
            simp
          subst hf
          clear HT HR
          go_wp2_with fail
          refine wp_region_held_drew (S := fun w' => Bel wr w') (by kernel_rfl) (by (repeat (first | exact Bel.refl _ | assumption | refine Bel.to_drewN ?_ _ | refine Bel.to_drew ?_ | refine Bel.to_setCell ?_ (by first | exact Nat.le_refl _ | (simp; done) | (simp; omega) | omega) _ | refine Bel.to_alloc ?_ _ | refine Bel.trans ?_ (by assumption)))) (fun hHeld => ?_)
          refine wpAnyH_take (i := 0) (oi := _) (v := ?_) rfl (by kernel_rfl) (by kernel_rfl) (by kernel_rfl) (fun _ _ _ h => h) ?_ (by assumption) ?_
          rotate_left 1
          · first
              | (refine Or.inl ⟨by rfl, ?_⟩; intro w9 hSw; (try dsimp only at hSw); have e9_0 := Bel.keep hSw f0; have e9_1 := Bel.keep hSw f1; have e9_2 := Bel.keep hSw e0; have e9_3 := Bel.keep hSw e1; go_simp; (try with_reducible rfl); done)
              | (refine Or.inr ⟨by rfl, ?_⟩; rfl)
          simp only [List.getElem_toArray, List.getElem_cons_zero, Act.put, List.setIfInBounds_toArray, List.set_cons_zero, List.set_cons_succ]
          refine wpAnyH_take (i := 1) (oi := _) (v := ?_) rfl (by kernel_rfl) (by kernel_rfl) (by kernel_rfl) (fun _ _ _ h => h) ?_ (by assumption) ?_
          rotate_left 1
          · first
              | (refine Or.inl ⟨by rfl, ?_⟩; intro w9 hSw; (try dsimp only at hSw); have e9_0 := Bel.keep hSw f0; have e9_1 := Bel.keep hSw f1; have e9_2 := Bel.keep hSw e0; have e9_3 := Bel.keep hSw e1; go_simp; (try with_reducible rfl); done)
              | (refine Or.inr ⟨by rfl, ?_⟩; rfl)
          simp only [List.getElem_toArray, List.getElem_cons_succ, List.getElem_cons_zero, Act.put, List.setIfInBounds_toArray, List.set_cons_zero, List.set_cons_succ]
          refine wpAnyH_take (i := 2) (oi := _) (v := ?_) rfl (by kernel_rfl) (by kernel_rfl) (by kernel_rfl) (fun _ _ _ h => h) ?_ (by assumption) ?_
          rotate_left 1
          · first
              | (refine Or.inl ⟨by rfl, ?_⟩; intro w9 hSw; (try dsimp only at hSw); have e9_0 := Bel.keep hSw f0; have e9_1 := Bel.keep hSw f1; have e9_2 := Bel.keep hSw e0; have e9_3 := Bel.keep hSw e1; go_simp; (try with_reducible rfl); done)
              | (refine Or.inr ⟨by rfl, ?_⟩; rfl)
          simp only [List.getElem_toArray, List.getElem_cons_succ, List.getElem_cons_zero, Act.put, List.setIfInBounds_toArray, List.set_cons_zero, List.set_cons_succ]
          refine wpAnyH_take (i := 3) (oi := _) (v := ?_) rfl (by kernel_rfl) (by kernel_rfl) (by kernel_rfl) (fun _ _ _ h => h) ?_ (by assumption) ?_
          rotate_left 1
          · first
              | (refine Or.inl ⟨by rfl, ?_⟩; intro w9 hSw; (try dsimp only at hSw); have e9_0 := Bel.keep hSw f0; have e9_1 := Bel.keep hSw f1; have e9_2 := Bel.keep hSw e0; have e9_3 := Bel.keep hSw e1; go_simp; (try with_reducible rfl); done)
              | (refine Or.inr ⟨by rfl, ?_⟩; rfl)
          simp only [List.getElem_toArray, List.getElem_cons_succ, List.getElem_cons_zero, Act.put, List.setIfInBounds_toArray, List.set_cons_zero, List.set_cons_succ]
          refine wpAnyH_take (i := 4) (oi := _) (v := ?_) rfl (by kernel_rfl) (by kernel_rfl) (by kernel_rfl) (fun _ _ _ h => h) ?_ (by assumption) ?_
          rotate_left 1
          · first
              | (refine Or.inl ⟨by rfl, ?_⟩; intro w9 hSw; (try dsimp only at hSw); have e9_0 := Bel.keep hSw f0; have e9_1 := Bel.keep hSw f1; have e9_2 := Bel.keep hSw e0; have e9_3 := Bel.keep hSw e1; go_simp; (try with_reducible rfl); done)
              | (refine Or.inr ⟨by rfl, ?_⟩; rfl)
          simp only [List.getElem_toArray, List.getElem_cons_succ, List.getElem_cons_zero, Act.put, List.setIfInBounds_toArray, List.set_cons_zero, List.set_cons_succ]
          refine wpAnyH_take (i := 5) (oi := _) (v := ?_) rfl (by kernel_rfl) (by kernel_rfl) (by kernel_rfl) (fun _ _ _ h => h) ?_ (by assumption) ?_
          rotate_left 1
          · first
              | (refine Or.inl ⟨by rfl, ?_⟩; intro w9 hSw; (try dsimp only at hSw); have e9_0 := Bel.keep hSw f0; have e9_1 := Bel.keep hSw f1; have e9_2 := Bel.keep hSw e0; have e9_3 := Bel.keep hSw e1; go_simp; (try with_reducible rfl); done)
              | (refine Or.inr ⟨by rfl, ?_⟩; rfl)
          simp only [List.getElem_toArray, List.getElem_cons_succ, List.getElem_cons_zero, Act.put, List.setIfInBounds_toArray, List.set_cons_zero, List.set_cons_succ]
          refine wpAnyH_take (i := 6) (oi := _) (v := ?_) rfl (by kernel_rfl) (by kernel_rfl) (by kernel_rfl) (fun _ _ _ h => h) ?_ (by assumption) ?_
          rotate_left 1
          · first
              | (refine Or.inl ⟨by rfl, ?_⟩; intro w9 hSw; (try dsimp only at hSw); have e9_0 := Bel.keep hSw f0; have e9_1 := Bel.keep hSw f1; have e9_2 := Bel.keep hSw e0; have e9_3 := Bel.keep hSw e1; go_simp; (try with_reducible rfl); done)
              | (refine Or.inr ⟨by rfl, ?_⟩; rfl)
          simp only [List.getElem_toArray, List.getElem_cons_succ, List.getElem_cons_zero, Act.put, List.setIfInBounds_toArray, List.set_cons_zero, List.set_cons_succ]
          refine wpAnyH_take (i := 7) (oi := _) (v := ?_) rfl (by kernel_rfl) (by kernel_rfl) (by kernel_rfl) (fun _ _ _ h => h) ?_ (by assumption) ?_
          rotate_left 1
          · first
              | (refine Or.inl ⟨by rfl, ?_⟩; intro w9 hSw; (try dsimp only at hSw); have e9_0 := Bel.keep hSw f0; have e9_1 := Bel.keep hSw f1; have e9_2 := Bel.keep hSw e0; have e9_3 := Bel.keep hSw e1; go_simp; (try with_reducible rfl); done)
              | (refine Or.inr ⟨by rfl, ?_⟩; rfl)
          simp only [List.getElem_toArray, List.getElem_cons_succ, List.getElem_cons_zero, Act.put, List.setIfInBounds_toArray, List.set_cons_zero, List.set_cons_succ]
          refine wpAnyH_take (i := 8) (oi := _) (v := ?_) rfl (by kernel_rfl) (by kernel_rfl) (by kernel_rfl) (fun _ _ _ h => h) ?_ (by assumption) ?_
          rotate_left 1
          · first
              | (refine Or.inl ⟨by rfl, ?_⟩; intro w9 hSw; (try dsimp only at hSw); have e9_0 := Bel.keep hSw f0; have e9_1 := Bel.keep hSw f1; have e9_2 := Bel.keep hSw e0; have e9_3 := Bel.keep hSw e1; go_simp; (try with_reducible rfl); done)
              | (refine Or.inr ⟨by rfl, ?_⟩; rfl)
          simp only [List.getElem_toArray, List.getElem_cons_succ, List.getElem_cons_zero, Act.put, List.setIfInBounds_toArray, List.set_cons_zero, List.set_cons_succ]
          refine wpAnyH_take (i := 9) (oi := _) (v := ?_) rfl (by kernel_rfl) (by kernel_rfl) (by kernel_rfl) (fun _ _ _ h => h) ?_ (by assumption) ?_
          rotate_left 1
          · first
              | (refine Or.inl ⟨by rfl, ?_⟩; intro w9 hSw; (try dsimp only at hSw); have e9_0 := Bel.keep hSw f0; have e9_1 := Bel.keep hSw f1; have e9_2 := Bel.keep hSw e0; have e9_3 := Bel.keep hSw e1; go_simp; (try with_reducible rfl); done)
              | (refine Or.inr ⟨by rfl, ?_⟩; rfl)
          simp only [List.getElem_toArray, List.getElem_cons_succ, List.getElem_cons_zero, Act.put, List.setIfInBounds_toArray, List.set_cons_zero, List.set_cons_succ]
          refine wpAnyH_take (i := 10) (oi := _) (v := ?_) rfl (by kernel_rfl) (by kernel_rfl) (by kernel_rfl) (fun _ _ _ h => h) ?_ (by assumption) ?_
          rotate_left 1
          · first
              | (refine Or.inl ⟨by rfl, ?_⟩; intro w9 hSw; (try dsimp only at hSw); have e9_0 := Bel.keep hSw f0; have e9_1 := Bel.keep hSw f1; have e9_2 := Bel.keep hSw e0; have e9_3 := Bel.keep hSw e1; go_simp; (try with_reducible rfl); done)
              | (refine Or.inr ⟨by rfl, ?_⟩; rfl)
          simp only [List.getElem_toArray, List.getElem_cons_succ, List.getElem_cons_zero, Act.put, List.setIfInBounds_toArray, List.set_cons_zero, List.set_cons_succ]
          refine wpAnyH_take (i := 11) (oi := _) (v := ?_) rfl (by kernel_rfl) (by kernel_rfl) (by kernel_rfl) (fun _ _ _ h => h) ?_ (by assumption) ?_
          rotate_left 1
          · first
              | (refine Or.inl ⟨by rfl, ?_⟩; intro w9 hSw; (try dsimp only at hSw); have e9_0 := Bel.keep hSw f0; have e9_1 := Bel.keep hSw f1; have e9_2 := Bel.keep hSw e0; have e9_3 := Bel.keep hSw e1; go_simp; (try with_reducible rfl); done)
              | (refine Or.inr ⟨by rfl, ?_⟩; rfl)
          simp only [List.getElem_toArray, List.getElem_cons_succ, List.getElem_cons_zero, Act.put, List.setIfInBounds_toArray, List.set_cons_zero, List.set_cons_succ]
          refine wpAnyH_take (i := 12) (oi := _) (v := ?_) rfl (by kernel_rfl) (by kernel_rfl) (by kernel_rfl) (fun _ _ _ h => h) ?_ (by assumption) ?_
          rotate_left 1
          · first
              | (refine Or.inl ⟨by rfl, ?_⟩; intro w9 hSw; (try dsimp only at hSw); have e9_0 := Bel.keep hSw f0; have e9_1 := Bel.keep hSw f1; have e9_2 := Bel.keep hSw e0; have e9_3 := Bel.keep hSw e1; go_simp; (try with_reducible rfl); done)
              | (refine Or.inr ⟨by rfl, ?_⟩; rfl)
          simp only [List.getElem_toArray, List.getElem_cons_succ, List.getElem_cons_zero, Act.put, List.setIfInBounds_toArray, List.set_cons_zero, List.set_cons_succ]
          refine wpAnyH_take (i := 13) (oi := _) (v := ?_) rfl (by kernel_rfl) (by kernel_rfl) (by kernel_rfl) (fun _ _ _ h => h) ?_ (by assumption) ?_
          rotate_left 1
          · first
              | (refine Or.inl ⟨by rfl, ?_⟩; intro w9 hSw; (try dsimp only at hSw); have e9_0 := Bel.keep hSw f0; have e9_1 := Bel.keep hSw f1; have e9_2 := Bel.keep hSw e0; have e9_3 := Bel.keep hSw e1; go_simp; (try with_reducible rfl); done)
              | (refine Or.inr ⟨by rfl, ?_⟩; rfl)
          simp only [List.getElem_toArray, List.getElem_cons_succ, List.getElem_cons_zero, Act.put, List.setIfInBounds_toArray, List.set_cons_zero, List.set_cons_succ]
          refine wpAnyH_take (i := 14) (oi := _) (v := ?_) rfl (by kernel_rfl) (by kernel_rfl) (by kernel_rfl) (fun _ _ _ h => h) ?_ (by assumption) ?_
          rotate_left 1
          · first
              | (refine Or.inl ⟨by rfl, ?_⟩; intro w9 hSw; (try dsimp only at hSw); have e9_0 := Bel.keep hSw f0; have e9_1 := Bel.keep hSw f1; have e9_2 := Bel.keep hSw e0; have e9_3 := Bel.keep hSw e1; go_simp; (try with_reducible rfl); done)
              | (refine Or.inr ⟨by rfl, ?_⟩; rfl)
          simp only [List.getElem_toArray, List.getElem_cons_succ, List.getElem_cons_zero, Act.put, List.setIfInBounds_toArray, List.set_cons_zero, List.set_cons_succ]
          refine wpAnyH_take (i := 15) (oi := _) (v := ?_) rfl (by kernel_rfl) (by kernel_rfl) (by kernel_rfl) (fun _ _ _ h => h) ?_ (by assumption) ?_
          rotate_left 1
          · first
              | (refine Or.inl ⟨by rfl, ?_⟩; intro w9 hSw; (try dsimp only at hSw); have e9_0 := Bel.keep hSw f0; have e9_1 := Bel.keep hSw f1; have e9_2 := Bel.keep hSw e0; have e9_3 := Bel.keep hSw e1; go_simp; (try with_reducible rfl); done)
              | (refine Or.inr ⟨by rfl, ?_⟩; rfl)
          simp only [List.getElem_toArray, List.getElem_cons_succ, List.getElem_cons_zero, Act.put, List.setIfInBounds_toArray, List.set_cons_zero, List.set_cons_succ]
          refine wpAnyH_take (i := 16) (oi := _) (v := ?_) rfl (by kernel_rfl) (by kernel_rfl) (by kernel_rfl) (fun _ _ _ h => h) ?_ (by assumption) ?_
          rotate_left 1
          · first
              | (refine Or.inl ⟨by rfl, ?_⟩; intro w9 hSw; (try dsimp only at hSw); have e9_0 := Bel.keep hSw f0; have e9_1 := Bel.keep hSw f1; have e9_2 := Bel.keep hSw e0; have e9_3 := Bel.keep hSw e1; go_simp; (try with_reducible rfl); done)
              | (refine Or.inr ⟨by rfl, ?_⟩; rfl)
          simp only [List.getElem_toArray, List.getElem_cons_succ, List.getElem_cons_zero, Act.put, List.setIfInBounds_toArray, List.set_cons_zero, List.set_cons_succ]
          refine wpAnyH_take (i := 17) (oi := _) (v := ?_) rfl (by kernel_rfl) (by kernel_rfl) (by kernel_rfl) (fun _ _ _ h => h) ?_ (by assumption) ?_
          rotate_left 1
          · first
              | (refine Or.inl ⟨by rfl, ?_⟩; intro w9 hSw; (try dsimp only at hSw); have e9_0 := Bel.keep hSw f0; have e9_1 := Bel.keep hSw f1; have e9_2 := Bel.keep hSw e0; have e9_3 := Bel.keep hSw e1; go_simp; (try with_reducible rfl); done)
              | (refine Or.inr ⟨by rfl, ?_⟩; rfl)
          simp only [List.getElem_toArray, List.getElem_cons_succ, List.getElem_cons_zero, Act.put, List.setIfInBounds_toArray, List.set_cons_zero, List.set_cons_succ]
          refine wpAnyH_take (i := 18) (oi := _) (v := ?_) rfl (by kernel_rfl) (by kernel_rfl) (by kernel_rfl) (fun _ _ _ h => h) ?_ (by assumption) ?_
          rotate_left 1
          · first
              | (refine Or.inl ⟨by rfl, ?_⟩; intro w9 hSw; (try dsimp only at hSw); have e9_0 := Bel.keep hSw f0; have e9_1 := Bel.keep hSw f1; have e9_2 := Bel.keep hSw e0; have e9_3 := Bel.keep hSw e1; go_simp; (try with_reducible rfl); done)
              | (refine Or.inr ⟨by rfl, ?_⟩; rfl)
          simp only [List.getElem_toArray, List.getElem_cons_succ, List.getElem_cons_zero, Act.put, List.setIfInBounds_toArray, List.set_cons_zero, List.set_cons_succ]
          refine wpAnyH_take (i := 19) (oi := _) (v := ?_) rfl (by kernel_rfl) (by kernel_rfl) (by kernel_rfl) (fun _ _ _ h => h) ?_ (by assumption) ?_
          rotate_left 1
          · first
              | (refine Or.inl ⟨by rfl, ?_⟩; intro w9 hSw; (try dsimp only at hSw); have e9_0 := Bel.keep hSw f0; have e9_1 := Bel.keep hSw f1; have e9_2 := Bel.keep hSw e0; have e9_3 := Bel.keep hSw e1; go_simp; (try with_reducible rfl); done)
              | (refine Or.inr ⟨by rfl, ?_⟩; rfl)
          simp only [List.getElem_toArray, List.getElem_cons_succ, List.getElem_cons_zero, Act.put, List.setIfInBounds_toArray, List.set_cons_zero, List.set_cons_succ]
          refine wpAnyH_take (i := 20) (oi := _) (v := ?_) rfl (by kernel_rfl) (by kernel_rfl) (by kernel_rfl) (fun _ _ _ h => h) ?_ (by assumption) ?_
          rotate_left 1
          · first
              | (refine Or.inl ⟨by rfl, ?_⟩; intro w9 hSw; (try dsimp only at hSw); have e9_0 := Bel.keep hSw f0; have e9_1 := Bel.keep hSw f1; have e9_2 := Bel.keep hSw e0; have e9_3 := Bel.keep hSw e1; go_simp; (try with_reducible rfl); done)
              | (refine Or.inr ⟨by rfl, ?_⟩; rfl)
          simp only [List.getElem_toArray, List.getElem_cons_succ, List.getElem_cons_zero, Act.put, List.setIfInBounds_toArray, List.set_cons_zero, List.set_cons_succ]
          refine wpAnyH_take (i := 21) (oi := _) (v := ?_) rfl (by kernel_rfl) (by kernel_rfl) (by kernel_rfl) (fun _ _ _ h => h) ?_ (by assumption) ?_
          rotate_left 1
          · first
              | (refine Or.inl ⟨by rfl, ?_⟩; intro w9 hSw; (try dsimp only at hSw); have e9_0 := Bel.keep hSw f0; have e9_1 := Bel.keep hSw f1; have e9_2 := Bel.keep hSw e0; have e9_3 := Bel.keep hSw e1; go_simp; (try with_reducible rfl); done)
              | (refine Or.inr ⟨by rfl, ?_⟩; rfl)
          simp only [List.getElem_toArray, List.getElem_cons_succ, List.getElem_cons_zero, Act.put, List.setIfInBounds_toArray, List.set_cons_zero, List.set_cons_succ]
          refine wpAnyH_take (i := 22) (oi := _) (v := ?_) rfl (by kernel_rfl) (by kernel_rfl) (by kernel_rfl) (fun _ _ _ h => h) ?_ (by assumption) ?_
          rotate_left 1
          · first
              | (refine Or.inl ⟨by rfl, ?_⟩; intro w9 hSw; (try dsimp only at hSw); have e9_0 := Bel.keep hSw f0; have e9_1 := Bel.keep hSw f1; have e9_2 := Bel.keep hSw e0; have e9_3 := Bel.keep hSw e1; go_simp; (try with_reducible rfl); done)
              | (refine Or.inr ⟨by rfl, ?_⟩; rfl)
          simp only [List.getElem_toArray, List.getElem_cons_succ, List.getElem_cons_zero, Act.put, List.setIfInBounds_toArray, List.set_cons_zero, List.set_cons_succ]
          refine wpAnyH_take (i := 23) (oi := _) (v := ?_) rfl (by kernel_rfl) (by kernel_rfl) (by kernel_rfl) (fun _ _ _ h => h) ?_ (by assumption) ?_
          rotate_left 1
          · first
              | (refine Or.inl ⟨by rfl, ?_⟩; intro w9 hSw; (try dsimp only at hSw); have e9_0 := Bel.keep hSw f0; have e9_1 := Bel.keep hSw f1; have e9_2 := Bel.keep hSw e0; have e9_3 := Bel.keep hSw e1; go_simp; (try with_reducible rfl); done)
              | (refine Or.inr ⟨by rfl, ?_⟩; rfl)
          simp only [List.getElem_toArray, List.getElem_cons_succ, List.getElem_cons_zero, Act.put, List.setIfInBounds_toArray, List.set_cons_zero, List.set_cons_succ]
          refine wpAnyH_take (i := 24) (oi := _) (v := ?_) rfl (by kernel_rfl) (by kernel_rfl) (by kernel_rfl) (fun _ _ _ h => h) ?_ (by assumption) ?_
          rotate_left 1
          · first
              | (refine Or.inl ⟨by rfl, ?_⟩; intro w9 hSw; (try dsimp only at hSw); have e9_0 := Bel.keep hSw f0; have e9_1 := Bel.keep hSw f1; have e9_2 := Bel.keep hSw e0; have e9_3 := Bel.keep hSw e1; go_simp; (try with_reducible rfl); done)
              | (refine Or.inr ⟨by rfl, ?_⟩; rfl)
          simp only [List.getElem_toArray, List.getElem_cons_succ, List.getElem_cons_zero, Act.put, List.setIfInBounds_toArray, List.set_cons_zero, List.set_cons_succ]
          refine wpAnyH_take (i := 25) (oi := _) (v := ?_) rfl (by kernel_rfl) (by kernel_rfl) (by kernel_rfl) (fun _ _ _ h => h) ?_ (by assumption) ?_
          rotate_left 1
          · first
              | (refine Or.inl ⟨by rfl, ?_⟩; intro w9 hSw; (try dsimp only at hSw); have e9_0 := Bel.keep hSw f0; have e9_1 := Bel.keep hSw f1; have e9_2 := Bel.keep hSw e0; have e9_3 := Bel.keep hSw e1; go_simp; (try with_reducible rfl); done)
              | (refine Or.inr ⟨by rfl, ?_⟩; rfl)
          simp only [List.getElem_toArray, List.getElem_cons_succ, List.getElem_cons_zero, Act.put, List.setIfInBounds_toArray, List.set_cons_zero, List.set_cons_succ]
          refine wpAnyH_take (i := 26) (oi := _) (v := ?_) rfl (by kernel_rfl) (by kernel_rfl) (by kernel_rfl) (fun _ _ _ h => h) ?_ (by assumption) ?_
          rotate_left 1
          · first
              | (refine Or.inl ⟨by rfl, ?_⟩; intro w9 hSw; (try dsimp only at hSw); have e9_0 := Bel.keep hSw f0; have e9_1 := Bel.keep hSw f1; have e9_2 := Bel.keep hSw e0; have e9_3 := Bel.keep hSw e1; go_simp; (try with_reducible rfl); done)
              | (refine Or.inr ⟨by rfl, ?_⟩; rfl)
          simp only [List.getElem_toArray, List.getElem_cons_succ, List.getElem_cons_zero, Act.put, List.setIfInBounds_toArray, List.set_cons_zero, List.set_cons_succ]
          refine wpAnyH_take (i := 27) (oi := _) (v := ?_) rfl (by kernel_rfl) (by kernel_rfl) (by kernel_rfl) (fun _ _ _ h => h) ?_ (by assumption) ?_
          rotate_left 1
          · first
              | (refine Or.inl ⟨by rfl, ?_⟩; intro w9 hSw; (try dsimp only at hSw); have e9_0 := Bel.keep hSw f0; have e9_1 := Bel.keep hSw f1; have e9_2 := Bel.keep hSw e0; have e9_3 := Bel.keep hSw e1; go_simp; (try with_reducible rfl); done)
              | (refine Or.inr ⟨by rfl, ?_⟩; rfl)
          simp only [List.getElem_toArray, List.getElem_cons_succ, List.getElem_cons_zero, Act.put, List.setIfInBounds_toArray, List.set_cons_zero, List.set_cons_succ]
          refine wpAnyH_take (i := 28) (oi := _) (v := ?_) rfl (by kernel_rfl) (by kernel_rfl) (by kernel_rfl) (fun _ _ _ h => h) ?_ (by assumption) ?_
          rotate_left 1
          · first
              | (refine Or.inl ⟨by rfl, ?_⟩; intro w9 hSw; (try dsimp only at hSw); have e9_0 := Bel.keep hSw f0; have e9_1 := Bel.keep hSw f1; have e9_2 := Bel.keep hSw e0; have e9_3 := Bel.keep hSw e1; go_simp; (try with_reducible rfl); done)
              | (refine Or.inr ⟨by rfl, ?_⟩; rfl)
          simp only [List.getElem_toArray, List.getElem_cons_succ, List.getElem_cons_zero, Act.put, List.setIfInBounds_toArray, List.set_cons_zero, List.set_cons_succ]
          refine wpAnyH_done (by kernel_rfl) ?_ _
          go_wp2_with fail
          go_ret
          exact ⟨rfl, HB.out.trans hHeld⟩
      · obtain rfl : k = n1 := by omega
        have hr : R = true := by
          rw [← htk, all2_end sameR l1 l2 k (by have := H1.out; omega) (by have := H2.out; omega)]
        subst hr
        clear HR htk
        go_wp2_with fail
        go_ret
        exact ⟨rfl, hbel⟩
  · have hf : R = false := by
      rw [← HR.out]
      exact all2_len sameR l1 l2 (by rw [H1.out, H2.out]; exact he)
    subst hf
    have e1 : ((n1 : Int) == n2) = false := by simp; omega
    have e2 : ((n1 : Int) != n2) = true := by simp; omega
    clear he
    go_enter Tryz.func43, Tryz.ntmps43
    go_wp2_with fail
    go_ret
    exact ⟨rfl, by (repeat (first | exact Bel.refl _ | assumption | refine Bel.to_drewN ?_ _ | refine Bel.to_drew ?_ | refine Bel.to_setCell ?_ (by first | exact Nat.le_refl _ | (simp; done) | (simp; omega) | omega) _ | refine Bel.to_alloc ?_ _ | refine Bel.trans ?_ (by assumption)))⟩
end Go.Proofs.YtchbhcjhoocjaaaGreatDoor
