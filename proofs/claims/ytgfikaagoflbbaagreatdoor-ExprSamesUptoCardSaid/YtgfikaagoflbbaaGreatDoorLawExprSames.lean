/-
  The walk of the law ExprSames: whatever the two expressions: true.
-/
import Derived.Test.YtgfikaagoflbbaaGreatDoorEXE
namespace Go.Proofs.YtgfikaagoflbbaaGreatDoor
open Go.RowKit

set_option maxRecDepth 100000 in
set_option maxHeartbeats 8000000 in
theorem exprSames_walk {w : World} (a : Ex) (an al : Value) (ha : ExAt w a an al) (hba : a.bulk ≤ 1048576) (b : Ex) (bn bl : Value) (hb : ExAt w b bn bl) (hbb : b.bulk ≤ 1048576) (hE : EnvX w) :
    Calls Tryz.prog 8 #[exV a an al, exV b bn bl] w (RetBel (.bool true) w) := by
  have HA := Lib.hid ha
  have HB := Lib.hid hb
  have HE := Lib.hid hE
  obtain ⟨ana, ala, ann, anc, am, alc, rfl, rfl, _, _, _, _, _, _, _, _⟩ := ha.opened
  obtain ⟨bna, bla, bnn, bnc, bm, blc, rfl, rfl, _, _, _, _, _, _, _, _⟩ := hb.opened
  unfold exV
  have HS := Lib.hid (fun (x : Ex) (xn xl : Value) (y : Ex) (yn yl : Value) W (h1 : x.bulk ≤ 1048576) (h2 : y.bulk ≤ 1048576) (hx : ExAt W x xn xl) (hy : ExAt W y yn yl) => same_e x.bulk x (Nat.le_refl _) (by omega) y xn xl yn yl W (by omega) hx hy)
  have HRS := Lib.hid (fun (x : Ex) (xn xl : Value) (y : Ex) (yn yl : Value) W (h1 : x.bulk ≤ 1048576) (h2 : y.bulk ≤ 1048576) (hx : ExAt W x xn xl) (hy : ExAt W y yn yl) => rsame_e x.bulk x (Nat.le_refl _) (by omega) y xn xl yn yl W (by omega) hx hy)
  have hsc : sameE b a = sameE a b := sameE_comm a b
  have hsa : sameE a a = true := sameE_refl a
  have HBK := Lib.hid (show ∀ x ∈ [a, b], x.bulk ≤ 1073741824 by intro x hx; simp at hx; rcases hx with rfl | rfl <;> omega)
  clear ha hb hE
  go_enter Tryz.func8, Tryz.ntmps8
  go_wp2_with fail
  obtain ⟨V1, h1, k1, l1, s1⟩ := alloc_step w 25 [.int .i64 a.k, .string a.s, .slice ana ann anc, .slice ala am alc]
  obtain ⟨V2, h2, k2, l2, s2⟩ := alloc_step V1 25 [.int .i64 b.k, .string b.s, .slice bna bnn bnc, .slice bla bm blc]
  rw [h1, h2]
  rw [s1] at k2 s2
  have BA := Lib.hid (k1.bel l2)
  have BB := Lib.hid k2
  have HV := Lib.hid (l1.trans l2)
  clear h1 h2 k1 k2 l1 l2 s1 s2
  refine (ealive_c _ (HE.out.bel HV.out)).mono ?_
  rintro e1 w1 ⟨rfl, hb1⟩
  have c0 := hb1.keep (BA.out.at 0)
  have c1 := hb1.keep (BA.out.at 1)
  have c2 := hb1.keep (BA.out.at 2)
  have c3 := hb1.keep (BA.out.at 3)
  have d0 := hb1.keep (BB.out.at 0)
  have d1 := hb1.keep (BB.out.at 1)
  have d2 := hb1.keep (BB.out.at 2)
  have d3 := hb1.keep (BB.out.at 3)
  have HB1 := Lib.hid (HV.out.trans hb1)
  clear hb1
  go_wp2_with fail
  obtain ⟨V3, h3, k3, l3, s3⟩ := alloc_step w1 25 [.int .i64 a.k, .string a.s, .slice ana ann anc, .slice ala am alc, .int .i64 b.k, .string b.s, .slice bna bnn bnc, .slice bla bm blc]
  rw [h3]
  have hb3 := HB1.out.trans l3
  have HG := Lib.hid (egreat_c [a, b] (some ⟨w1.heap.size, 0, none⟩) 2 2 V3 rfl (by omega) (parts_of_exs (exs_two k3 rfl (ExAt.bel hb3 a HA.out) (ExAt.bel hb3 b HB.out))) HBK.out)
  have e0 := l3.keep c0
  have e1 := l3.keep c1
  have e2 := l3.keep c2
  have e3 := l3.keep c3
  have f0 := l3.keep d0
  have f1 := l3.keep d1
  have f2 := l3.keep d2
  have f3 := l3.keep d3
  have HB3 := Lib.hid hb3
  clear h3 k3 l3 s3 hb3 c0 c1 c2 c3 d0 d1 d2 d3
  refine HG.out.mono ?_
  rintro e4 w4 ⟨rfl, hb4⟩
  have c0 := hb4.keep e0
  have c1 := hb4.keep e1
  have c2 := hb4.keep e2
  have c3 := hb4.keep e3
  have d0 := hb4.keep f0
  have d1 := hb4.keep f1
  have d2 := hb4.keep f2
  have d3 := hb4.keep f3
  have HB4 := Lib.hid (HB3.out.trans hb4)
  obtain ⟨g, hg⟩ : ∃ g, [a, b].any greatE = g := ⟨_, rfl⟩
  rw [hg]
  clear e0 e1 e2 e3 f0 f1 f2 f3 hb4 hg HG
  cases g with
  | true =>
    have h1 : oneIf true = 1 := rfl
    rw [h1]
    go_wp2_with fail
    refine (ealive_c _ (HE.out.bel HB4.out)).mono ?_
    rintro e5 w5 ⟨rfl, hb5⟩
    go_wp2_with fail
    go_ret
    exact ⟨rfl, HB4.out.trans hb5⟩
  | false =>
    have h1 : oneIf false = 0 := rfl
    rw [h1]
    go_wp2_with fail
    go_region_held3 (fun w' => w'.cell? ⟨w.heap.size, 0, none⟩ = some (.int .i64 a.k) ∧ w'.cell? ⟨w.heap.size, 1, none⟩ = some (.string a.s) ∧ w'.cell? ⟨w.heap.size, 2, none⟩ = some (.slice ana ann anc) ∧ w'.cell? ⟨w.heap.size, 3, none⟩ = some (.slice ala am alc) ∧ w'.cell? ⟨w.heap.size + 1, 0, none⟩ = some (.int .i64 b.k) ∧ w'.cell? ⟨w.heap.size + 1, 1, none⟩ = some (.string b.s) ∧ w'.cell? ⟨w.heap.size + 1, 2, none⟩ = some (.slice bna bnn bnc) ∧ w'.cell? ⟨w.heap.size + 1, 3, none⟩ = some (.slice bla bm blc) ∧ Bel w4 w') (((try dsimp only); (try go_split_ands); (refine ⟨?_, ?_, ?_, ?_, ?_, ?_, ?_, ?_, ?_⟩ <;> first | assumption | exact Bel.keep (by assumption) (by assumption) | ((repeat (first | exact Bel.refl _ | assumption | refine Bel.to_drewN ?_ _ | refine Bel.to_drew ?_ | refine Bel.to_setCell ?_ (by first | exact Nat.le_refl _ | (simp; done) | (simp; omega) | omega) _ | refine Bel.to_alloc ?_ _ | refine Bel.trans ?_ (by assumption))); done) | (go_keep; done))))
      (first
        | (go_at_call 25; refine (HS.out _ _ _ _ _ _ _ (by first | exact hba | exact hbb) (by first | exact hba | exact hbb) (by first | exact ExAt.bel (HB4.out.trans (by (repeat (first | exact Bel.refl _ | assumption | refine Bel.to_drewN ?_ _ | refine Bel.to_drew ?_ | refine Bel.to_setCell ?_ (by first | exact Nat.le_refl _ | (simp; done) | (simp; omega) | omega) _ | refine Bel.to_alloc ?_ _ | refine Bel.trans ?_ (by assumption))))) a HA.out | exact ExAt.bel (HB4.out.trans (by (repeat (first | exact Bel.refl _ | assumption | refine Bel.to_drewN ?_ _ | refine Bel.to_drew ?_ | refine Bel.to_setCell ?_ (by first | exact Nat.le_refl _ | (simp; done) | (simp; omega) | omega) _ | refine Bel.to_alloc ?_ _ | refine Bel.trans ?_ (by assumption))))) b HB.out) (by first | exact ExAt.bel (HB4.out.trans (by (repeat (first | exact Bel.refl _ | assumption | refine Bel.to_drewN ?_ _ | refine Bel.to_drew ?_ | refine Bel.to_setCell ?_ (by first | exact Nat.le_refl _ | (simp; done) | (simp; omega) | omega) _ | refine Bel.to_alloc ?_ _ | refine Bel.trans ?_ (by assumption))))) a HA.out | exact ExAt.bel (HB4.out.trans (by (repeat (first | exact Bel.refl _ | assumption | refine Bel.to_drewN ?_ _ | refine Bel.to_drew ?_ | refine Bel.to_setCell ?_ (by first | exact Nat.le_refl _ | (simp; done) | (simp; omega) | omega) _ | refine Bel.to_alloc ?_ _ | refine Bel.trans ?_ (by assumption))))) b HB.out)).mono ?_; rintro e5 w5 ⟨rfl, hb5⟩)
        | (go_at_call 26; refine (HRS.out _ _ _ _ _ _ _ (by first | exact hba | exact hbb) (by first | exact hba | exact hbb) (by first | exact ExAt.bel (HB4.out.trans (by (repeat (first | exact Bel.refl _ | assumption | refine Bel.to_drewN ?_ _ | refine Bel.to_drew ?_ | refine Bel.to_setCell ?_ (by first | exact Nat.le_refl _ | (simp; done) | (simp; omega) | omega) _ | refine Bel.to_alloc ?_ _ | refine Bel.trans ?_ (by assumption))))) a HA.out | exact ExAt.bel (HB4.out.trans (by (repeat (first | exact Bel.refl _ | assumption | refine Bel.to_drewN ?_ _ | refine Bel.to_drew ?_ | refine Bel.to_setCell ?_ (by first | exact Nat.le_refl _ | (simp; done) | (simp; omega) | omega) _ | refine Bel.to_alloc ?_ _ | refine Bel.trans ?_ (by assumption))))) b HB.out) (by first | exact ExAt.bel (HB4.out.trans (by (repeat (first | exact Bel.refl _ | assumption | refine Bel.to_drewN ?_ _ | refine Bel.to_drew ?_ | refine Bel.to_setCell ?_ (by first | exact Nat.le_refl _ | (simp; done) | (simp; omega) | omega) _ | refine Bel.to_alloc ?_ _ | refine Bel.trans ?_ (by assumption))))) a HA.out | exact ExAt.bel (HB4.out.trans (by (repeat (first | exact Bel.refl _ | assumption | refine Bel.to_drewN ?_ _ | refine Bel.to_drew ?_ | refine Bel.to_setCell ?_ (by first | exact Nat.le_refl _ | (simp; done) | (simp; omega) | omega) _ | refine Bel.to_alloc ?_ _ | refine Bel.trans ?_ (by assumption))))) b HB.out)).mono ?_; rintro e8 w8 ⟨rfl, hb8⟩))
    all_goals (go_wp2_with fail; go_ret; go_split_ands; exact ⟨rfl, HB4.out.trans (by assumption)⟩)
end Go.Proofs.YtgfikaagoflbbaaGreatDoor
