/-
  Reference of logic: the walks of Count, cost; the law's Great.
-/
import Derived.Test.YtchbhcjhoocjaaaGreatDoorLGB
namespace Go.Proofs.YtchbhcjhoocjaaaGreatDoor
open Go.RowKit

/-- A number that is told as far as so much. -/
def NInv (t : Int) (S q : Nat) : Prop := q ≤ S ∧ (q = S ∨ t < q)
theorem exsAt_of {W : World} {b : Nat} : ∀ (l : List Ex) (off : Nat), (∀ i e, l[i]? = some e → ∃ vn vl, W.cell? ⟨b, off + i * 4, none⟩ = some (.int .i64 e.k) ∧ W.cell? ⟨b, off + i * 4 + 1, none⟩ = some (.string e.s) ∧ W.cell? ⟨b, off + i * 4 + 2, none⟩ = some vn ∧ W.cell? ⟨b, off + i * 4 + 3, none⟩ = some vl ∧ ExAt W e vn vl) → ExsAt W b off l
  | [], _, _ => by unfold ExsAt; trivial
  | .mk k s ns l :: r, off, h => by
    unfold ExsAt
    refine ⟨?_, exsAt_of r (off + 4) fun i e he => ?_⟩
    · obtain ⟨vn, vl, c0, c1, c2, c3, c4⟩ := h 0 _ rfl
      rw [Nat.zero_mul, Nat.add_zero] at c0 c1 c2 c3
      exact ⟨vn, vl, c0, c1, c2, c3, c4⟩
    · have := h (i + 1) e he
      rw [show off + 4 + i * 4 = off + (i + 1) * 4 from by omega]
      exact this
/-- Expressions as the parts of an empty one. -/
theorem exAt_parts {W : World} {a : Option Addr} {l : List Ex} {n c : Nat} (h : PartsAt W a l) (hn : l.length = n) (hc : n ≤ c) : ExAt W (.mk 0 ⟨#[]⟩ [] l) (.slice none 0 0) (.slice a n c) := by
  subst hn
  unfold ExAt
  refine ⟨rowE_nil W, by decide, a, c, rfl, hc, ?_⟩
  cases l with
  | nil => exact .inl rfl
  | cons x r =>
    obtain ⟨b, off, _, _, _, _, _, _, rfl, g0, _⟩ := h 0 x rfl
    refine .inr ⟨b, off, rfl, cell_lt g0, exsAt_of _ _ fun i e he => ?_⟩
    obtain ⟨b', off', xna, xnn, xnc, xla, xln, xlc, e1, q0, q1, q2, q3, q4⟩ := h i e he
    cases e1
    exact ⟨_, _, q0, q1, q2, q3, q4⟩
theorem bulk_parts0 (l : List Ex) : (Ex.mk 0 ⟨#[]⟩ [] l).bulk = Ex.bulk.bulks l + 1 := by
  unfold Ex.bulk
  simp
  rfl
set_option maxRecDepth 100000 in
set_option maxHeartbeats 4000000 in
theorem rcost_c (e : Ex) (vn vl : Value) (w : World) (t : Int) (hb : e.bulk ≤ 1073741824) (ht : t ≤ 1099511627776) (ht2 : -1099511627776 ≤ t) (hat : ExAt w e vn vl) :
    Calls Tryz.prog 78 #[.agg #[.int .i64 e.k, .string e.s, vn, vl], .int .i64 t] w (RetNat (NInv t e.bulk) w) := by
  have hat' := hat
  obtain ⟨na, la, nn, nc, m, lc, rfl, rfl, _, _, _, _, _, _, _, _⟩ := hat.opened
  have hcb := cE_bulk e
  have hbe : e.bulk = cE e + bE e := by unfold bE; omega
  by_cases h0 : t < 0
  · clear hat hat'
    go_enter Tryz.func78, Tryz.ntmps78
    go_wp2_with fail
    go_ret
    exact ⟨0, rfl, ⟨Nat.zero_le _, .inr h0⟩, by (repeat (first | exact Bel.refl _ | assumption | refine Bel.to_drewN ?_ _ | refine Bel.to_drew ?_ | refine Bel.to_setCell ?_ (by first | exact Nat.le_refl _ | (simp; done) | (simp; omega) | omega) _ | refine Bel.to_alloc ?_ _ | refine Bel.trans ?_ (by assumption)))⟩
  · have h0n : 0 ≤ t := by omega
    have HC := Lib.hid (fun W (hW : Bel w W) => rcount_c e.bulk e (Nat.le_refl _) hb _ _ W t h0n ht (ExAt.bel hW e hat'))
    have HBY := Lib.hid (fun W (hW : Bel w W) => rbytes_c e.bulk e (Nat.le_refl _) hb _ _ W t h0n ht (ExAt.bel hW e hat'))
    obtain ⟨V1, h1, k1, l1, s1⟩ := alloc_step w 26 [.int .i64 e.k, .string e.s, .slice na nn nc, .slice la m lc]
    have c0 := k1.at 0
    have c1 := k1.at 1
    have c2 := k1.at 2
    have c3 := k1.at 3
    have HV1 := Lib.hid h1
    have L1 := Lib.hid l1
    have HBE := Lib.hid hbe
    clear hat hat' hbe h1 k1 l1 s1
    go_enter Tryz.func78, Tryz.ntmps78
    go_upto_region 3 with fail
    rw [show w.alloc (.cells #[.int .i64 e.k, .string e.s, .slice na nn nc, .slice la m lc] 26) = V1 from HV1.out]
    clear HV1
    refine wp_region_held_drew (S := fun w' => Bel V1 w') (by kernel_rfl) (by (repeat (first | exact Bel.refl _ | assumption | refine Bel.to_drewN ?_ _ | refine Bel.to_drew ?_ | refine Bel.to_setCell ?_ (by first | exact Nat.le_refl _ | (simp; done) | (simp; omega) | omega) _ | refine Bel.to_alloc ?_ _ | refine Bel.trans ?_ (by assumption)))) (fun hHeld => ?_)
    refine tk 0 (v := ?_) ?_ ?_
    rotate_left 1
    · first
        | (refine Or.inl ⟨by rfl, ?_⟩; intro w9 hSw; have e9_0 := Bel.keep hSw c0; have e9_1 := Bel.keep hSw c1; have e9_2 := Bel.keep hSw c2; have e9_3 := Bel.keep hSw c3; go_simp; (try with_reducible rfl); done)
        | (refine Or.inr ⟨by rfl, ?_⟩; rfl)
    simp only [List.getElem_toArray, List.getElem_cons_zero, Act.put, List.setIfInBounds_toArray, List.set_cons_zero, List.set_cons_succ]
    refine tk 1 (v := ?_) ?_ ?_
    rotate_left 1
    · first
        | (refine Or.inl ⟨by rfl, ?_⟩; intro w9 hSw; have e9_0 := Bel.keep hSw c0; have e9_1 := Bel.keep hSw c1; have e9_2 := Bel.keep hSw c2; have e9_3 := Bel.keep hSw c3; go_simp; (try with_reducible rfl); done)
        | (refine Or.inr ⟨by rfl, ?_⟩; rfl)
    simp only [List.getElem_toArray, List.getElem_cons_succ, List.getElem_cons_zero, Act.put, List.setIfInBounds_toArray, List.set_cons_zero, List.set_cons_succ]
    refine tk 3 (v := ?_) ?_ ?_
    rotate_left 1
    · first
        | (refine Or.inl ⟨by rfl, ?_⟩; intro w9 hSw; have e9_0 := Bel.keep hSw c0; have e9_1 := Bel.keep hSw c1; have e9_2 := Bel.keep hSw c2; have e9_3 := Bel.keep hSw c3; go_simp; (try with_reducible rfl); done)
        | (refine Or.inr ⟨by rfl, ?_⟩; rfl)
    simp only [List.getElem_toArray, List.getElem_cons_succ, List.getElem_cons_zero, Act.put, List.setIfInBounds_toArray, List.set_cons_zero, List.set_cons_succ]
    refine tk 4 (v := ?_) ?_ ?_
    rotate_left 1
    · first
        | (refine Or.inl ⟨by rfl, ?_⟩; intro w9 hSw; have e9_0 := Bel.keep hSw c0; have e9_1 := Bel.keep hSw c1; have e9_2 := Bel.keep hSw c2; have e9_3 := Bel.keep hSw c3; go_simp; (try with_reducible rfl); done)
        | (refine Or.inr ⟨by rfl, ?_⟩; rfl)
    simp only [List.getElem_toArray, List.getElem_cons_succ, List.getElem_cons_zero, Act.put, List.setIfInBounds_toArray, List.set_cons_zero, List.set_cons_succ]
    refine wpAnyH_ready (rs := [2]) (by kernel_rfl) (by simp) ?_
    refine AllReadyH.cons (o := _) rfl (fun K hK => ?_) AllReadyH.nil
    go_simp
    refine (HC.out _ (L1.out.trans (by (repeat (first | exact Bel.refl _ | assumption | refine Bel.to_drewN ?_ _ | refine Bel.to_drew ?_ | refine Bel.to_setCell ?_ (by first | exact Nat.le_refl _ | (simp; done) | (simp; omega) | omega) _ | refine Bel.to_alloc ?_ _ | refine Bel.trans ?_ (by assumption)))))).mono ?_
    rintro e1 w1 ⟨x1, rfl, hx1, hb1⟩
    dsimp only
    refine hK.out _ _ (by (repeat (first | exact Bel.refl _ | assumption | refine Bel.to_drewN ?_ _ | refine Bel.to_drew ?_ | refine Bel.to_setCell ?_ (by first | exact Nat.le_refl _ | (simp; done) | (simp; omega) | omega) _ | refine Bel.to_alloc ?_ _ | refine Bel.trans ?_ (by assumption)))) (fun hHeld => ?_)
    clear hK K
    refine wpAnyH_ready (rs := [5]) (by kernel_rfl) (by simp) ?_
    refine AllReadyH.cons (o := _) rfl (fun K hK => ?_) AllReadyH.nil
    go_simp
    refine (HBY.out _ (L1.out.trans (by (repeat (first | exact Bel.refl _ | assumption | refine Bel.to_drewN ?_ _ | refine Bel.to_drew ?_ | refine Bel.to_setCell ?_ (by first | exact Nat.le_refl _ | (simp; done) | (simp; omega) | omega) _ | refine Bel.to_alloc ?_ _ | refine Bel.trans ?_ (by assumption)))))).mono ?_
    rintro e2 w2 ⟨x2, rfl, hx2, hb2⟩
    dsimp only
    refine hK.out _ _ (by (repeat (first | exact Bel.refl _ | assumption | refine Bel.to_drewN ?_ _ | refine Bel.to_drew ?_ | refine Bel.to_setCell ?_ (by first | exact Nat.le_refl _ | (simp; done) | (simp; omega) | omega) _ | refine Bel.to_alloc ?_ _ | refine Bel.trans ?_ (by assumption)))) (fun hHeld => ?_)
    clear hK K
    have h1 := hx1.1
    have h2 := hx2.1
    have hs : IntKind.i64.wrap ((x1 : Int) + x2) = (x1 : Int) + x2 := IntWalk.i64_in _ (by have := HBE.out; omega)
    refine tk 6 (v := ?_) ?_ ?_
    rotate_left 1
    · first
        | (refine Or.inl ⟨by rfl, ?_⟩; intro w9 hSw; go_simp; (try with_reducible rfl); done)
        | (refine Or.inr ⟨by rfl, ?_⟩; rfl)
    simp only [List.getElem_toArray, List.getElem_cons_succ, List.getElem_cons_zero, Act.put, List.setIfInBounds_toArray, List.set_cons_zero, List.set_cons_succ]
    refine tk 7 (v := ?_) ?_ ?_
    rotate_left 1
    · first
        | (refine Or.inl ⟨by rfl, ?_⟩; intro w9 hSw; go_simp; (try with_reducible rfl); done)
        | (refine Or.inr ⟨by rfl, ?_⟩; rfl)
    simp only [List.getElem_toArray, List.getElem_cons_succ, List.getElem_cons_zero, Act.put, List.setIfInBounds_toArray, List.set_cons_zero, List.set_cons_succ]
    refine wpAnyH_done (by kernel_rfl) ?_ _
    have HX1 := Lib.hid hx1
    have HX2 := Lib.hid hx2
    clear hs hx1 hx2 h1 h2
    go_wp2_with fail
    go_ret
    exact ⟨x1 + x2, ret_int (by omega), ⟨by have := HX1.out.1; have := HX2.out.1; have := HBE.out; omega, by have := HX1.out.2; have := HX2.out.2; have := HBE.out; omega⟩, L1.out.trans (by (repeat (first | exact Bel.refl _ | assumption | refine Bel.to_drewN ?_ _ | refine Bel.to_drew ?_ | refine Bel.to_setCell ?_ (by first | exact Nat.le_refl _ | (simp; done) | (simp; omega) | omega) _ | refine Bel.to_alloc ?_ _ | refine Bel.trans ?_ (by assumption))))⟩
end Go.Proofs.YtchbhcjhoocjaaaGreatDoor
