/-
  model: the walk of circled.
-/
import Derived.Test.YtbcdbefogfmhfaaGreatDoorMXB
import Derived.Test.YtbcdbefogfmhfaaGreatDoorOXB
import Derived.Test.YtbcdbefogfmhfaaGreatDoorMPL
namespace Go.Proofs.YtbcdbefogfmhfaaGreatDoor
open Go.RowKit Go.Maps

theorem RowsI.len {B : Nat} {N : List (List Nat)} {a : Option Addr} {n c : Nat} {W : World} (h : RowsI B N (.slice a n c) W) : N.length = n := by
  obtain ⟨a2, c2, e, _⟩ := h.at'
  injection e with _ e _
  exact e.symm
set_option maxRecDepth 100000 in
set_option maxHeartbeats 16000000 in
theorem circled_c {u W : World} {cb bb tb : Nat} {m : Md} {q : MdQ} (h : CkS u cb bb tb m q W) (hbk : m.bulk ≤ 1048576) :
    Calls Tryz.prog 52 #[.pointer (some ⟨cb, 0, none⟩)] W (RetBel (.int .i64 (circM m)) W) := by
  have HS := Lib.hid h
  have HBK := Lib.hid hbk
  obtain ⟨B0, hB0⟩ : ∃ b, W.heap.size = b := ⟨_, rfl⟩
  have HB0 := Lib.hid hB0
  obtain ⟨ia, hia⟩ : ∃ a, q.ia = a := ⟨_, rfl⟩
  obtain ⟨im, him⟩ : ∃ a, q.im = a := ⟨_, rfl⟩
  obtain ⟨ic, hic⟩ : ∃ a, q.ic = a := ⟨_, rfl⟩
  have k3 : W.cell? ⟨cb, 3, none⟩ = some (.slice ia im ic) := by rw [← hia, ← him, ← hic]; exact h.bc.at 3
  have HIT : Hid (ItsAt u ia m.its ∧ m.its.length = im ∧ im ≤ 1048576) := Lib.hid ⟨hia ▸ h.at'.its, him ▸ h.at'.li, by have := m.bulk_len; have := h.at'.li; omega⟩
  have him2 : im ≤ 1048576 := HIT.out.2.2
  clear h hbk hia him hic hB0
  go_enter Tryz.func52, Tryz.ntmps52
  go_wp2_with fail
  go_loopw [3, 22] (fun o i wr => ∃ (j : Nat) (oa : Option Addr) (oc : Nat), i = .int .i64 j ∧ o = .slice oa j oc ∧ j ≤ im ∧ Hid (RowsI B0 ((basesM m).take j) (.slice oa j oc) wr) ∧ Hid (Bel W wr)) (fun _ i _ => im - (intOf i).toNat)
  case atStart => exact ⟨0, none, 0, rfl, rfl, Nat.zero_le _, Lib.hid (RowsI.nil _ _), Lib.hid (Bel.refl _)⟩
  case round =>
    obtain ⟨j, oa, oc, rfl, rfl, hj, HRW, HB⟩ := hrel
    by_cases hjn : j < im
    · as_aux_lemma =>
      have hji : (j : Int) < im := by omega
      obtain ⟨x, hx⟩ : ∃ x, m.its[j]? = some x := ⟨_, List.getElem?_eq_getElem (by have := HIT.out; omega)⟩
      obtain ⟨b, off, rfl, v, hcl, va, vc, rfl, _, _⟩ := HIT.out.1 j x hx
      obtain ⟨vn, hvn⟩ : ∃ n, x.te.l.length = n := ⟨_, rfl⟩
      rw [hvn] at hcl
      have hcl2 := hcl.bel (HS.out.bel.trans HB.out)
      have g0 := hcl2.get0
      have g1 := hcl2.get 1 rfl
      have g2 := hcl2.get 2 rfl
      have g3 := hcl2.get 3 rfl
      have g4 := hcl2.get 4 rfl
      have hxs : x.base.size ≤ 1048576 := by have := Md.bulk_its (List.mem_of_getElem? hx); have := HBK.out; unfold It.bulk at *; omega
      have hnn : (basesM m)[j]? = some (if x.base ∈ m.typ then [idxB m.typ x.base] else []) := by unfold basesM; rw [List.getElem?_map, hx]; rfl
      obtain ⟨V, hV, hxV, hbV, hsV⟩ := alloc_step wr 54 (itL x (.slice va vn vc))
      obtain ⟨ib, hib⟩ : ∃ x, wr.heap.size = x := ⟨_, rfl⟩
      rw [hib] at hxV
      have z1 : V.cell? ⟨ib, 1, none⟩ = some (.string x.base) := hxV.at 1
      have HTL : Hid (((basesM m).take j).length = j) := Lib.hid (by rw [List.length_take]; have := (List.getElem?_eq_some_iff.1 hnn).1; omega)
      have hS2 := HS.out.go (HB.out.trans hbV)
      have c8 : V.cell? ⟨cb, 8, none⟩ = some (.map (some tb)) := hS2.bc.at 8
      have hlk : ∀ X, Bel V X → (Instr.lookup 60 (.map (some tb)) (.string x.base) true).run Tryz.prog X = .ok (.tuple #[(typC m.typ x.base).getD int0, .bool (decide (x.base ∈ m.typ))]) X := fun X hX => by
        rw [← typC_some]
        exact mv_ask (hS2.ty.bel hX) Tryz.underlying60 (zero_int _) (s := x.base) (by unfold maxLen; omega)
      have HBV := Lib.hid (HB.out.trans hbV)
      have HRV := Lib.hid (HRW.out.bel hbV)
      have HVN := Lib.hid hV
      have HIB := Lib.hid hib
      unfold itL at HVN
      by_cases hm : x.base ∈ m.typ
      · rw [decide_eq_true hm, show (typC m.typ x.base).getD int0 = .int .i64 (idxB m.typ x.base) from by unfold typC; rw [if_pos hm]; rfl] at hlk
        rw [if_pos hm] at hnn
        have HTK : Hid ((basesM m).take (j + 1) = (basesM m).take j ++ [[idxB m.typ x.base]]) := Lib.hid (by rw [List.take_add_one, hnn]; rfl)
        clear hx hcl hcl2 hvn hxs hnn hV hxV hbV hsV hib k3 HRW HB hS2 hm
        go_upto_region 6 with fail
        rw [show wr.alloc (.cells #[.string x.nm, .string x.base, .bool x.te.any, .bool x.te.no, .slice va vn vc] 54) = V from HVN.out, HIB.out]
        clear HVN g0 g1 g2 g3 g4
        refine wp_region_held_drew (S := fun w' => Bel V w') (by kernel_rfl) (by (repeat (first | exact Bel.refl _ | assumption | refine Bel.to_drewN ?_ _ | refine Bel.to_drew ?_ | refine Bel.to_setCell ?_ (by first | exact Nat.le_refl _ | (simp; done) | (simp; omega) | omega) _ | refine Bel.to_alloc ?_ _ | refine Bel.trans ?_ (by assumption)))) (fun hHeld => ?_)
        refine tk 0 (v := ?_) ?_ ?_
        rotate_left 1
        · first
            | (refine Or.inl ⟨by rfl, ?_⟩; intro w9 hSw; have e9_0 := Bel.keep hSw c8; have e9_1 := Bel.keep hSw z1; go_simp; (try with_reducible rfl); done)
            | (refine Or.inr ⟨by rfl, ?_⟩; rfl)
        simp only [List.getElem_toArray, List.getElem_cons_zero, Act.put, List.setIfInBounds_toArray, List.set_cons_zero, List.set_cons_succ]
        refine tk 1 (v := ?_) ?_ ?_
        rotate_left 1
        · first
            | (refine Or.inl ⟨by rfl, ?_⟩; intro w9 hSw; have e9_0 := Bel.keep hSw c8; have e9_1 := Bel.keep hSw z1; go_simp; (try with_reducible rfl); done)
            | (refine Or.inr ⟨by rfl, ?_⟩; rfl)
        simp only [List.getElem_toArray, List.getElem_cons_succ, List.getElem_cons_zero, Act.put, List.setIfInBounds_toArray, List.set_cons_zero, List.set_cons_succ]
        refine tk 2 (v := ?_) ?_ ?_
        rotate_left 1
        · first
            | (refine Or.inl ⟨by rfl, ?_⟩; intro w9 hSw; have e9_0 := Bel.keep hSw c8; have e9_1 := Bel.keep hSw z1; go_simp; (try with_reducible rfl); done)
            | (refine Or.inr ⟨by rfl, ?_⟩; rfl)
        simp only [List.getElem_toArray, List.getElem_cons_succ, List.getElem_cons_zero, Act.put, List.setIfInBounds_toArray, List.set_cons_zero, List.set_cons_succ]
        refine tk 3 (v := ?_) ?_ ?_
        rotate_left 1
        · first
            | (refine Or.inl ⟨by rfl, ?_⟩; intro w9 hSw; have e9_0 := Bel.keep hSw c8; have e9_1 := Bel.keep hSw z1; go_simp; (try with_reducible rfl); done)
            | (refine Or.inr ⟨by rfl, ?_⟩; rfl)
        simp only [List.getElem_toArray, List.getElem_cons_succ, List.getElem_cons_zero, Act.put, List.setIfInBounds_toArray, List.set_cons_zero, List.set_cons_succ]
        refine tk 4 (v := ?_) ?_ ?_
        rotate_left 1
        · first
            | (refine Or.inl ⟨by rfl, ?_⟩; intro w9 hSw; have e9_0 := Bel.keep hSw c8; have e9_1 := Bel.keep hSw z1; go_simp; (try with_reducible rfl); done)
            | (refine Or.inr ⟨by rfl, ?_⟩; rfl)
        simp only [List.getElem_toArray, List.getElem_cons_succ, List.getElem_cons_zero, Act.put, List.setIfInBounds_toArray, List.set_cons_zero, List.set_cons_succ]
        refine tk 5 (v := ?_) ?_ ?_
        rotate_left 1
        · first
            | (refine Or.inl ⟨by rfl, ?_⟩; intro w9 hSw; have e9_0 := Bel.keep hSw c8; have e9_1 := Bel.keep hSw z1; go_simp; (try with_reducible rfl); done)
            | (refine Or.inr ⟨by rfl, ?_⟩; rfl)
        simp only [List.getElem_toArray, List.getElem_cons_succ, List.getElem_cons_zero, Act.put, List.setIfInBounds_toArray, List.set_cons_zero, List.set_cons_succ]
        refine tk 6 (v := ?_) ?_ ?_
        rotate_left 1
        · first
          | (refine Or.inl ⟨by rfl, ?_⟩; intro w9 hSw; have e9 := hlk w9 hSw; go_simp; (try with_reducible rfl); done)
          | (refine Or.inr ⟨by rfl, ?_⟩; rfl)
        simp only [List.getElem_toArray, List.getElem_cons_succ, List.getElem_cons_zero, Act.put, List.setIfInBounds_toArray, List.set_cons_zero, List.set_cons_succ]
        refine tk 7 (v := ?_) ?_ ?_
        rotate_left 1
        · first
            | (refine Or.inl ⟨by rfl, ?_⟩; intro w9 hSw; go_simp; (try with_reducible rfl); done)
            | (refine Or.inr ⟨by rfl, ?_⟩; rfl)
        simp only [List.getElem_toArray, List.getElem_cons_succ, List.getElem_cons_zero, Act.put, List.setIfInBounds_toArray, List.set_cons_zero, List.set_cons_succ]
        refine tk 8 (v := ?_) ?_ ?_
        rotate_left 1
        · first
            | (refine Or.inl ⟨by rfl, ?_⟩; intro w9 hSw; go_simp; (try with_reducible rfl); done)
            | (refine Or.inr ⟨by rfl, ?_⟩; rfl)
        simp only [List.getElem_toArray, List.getElem_cons_succ, List.getElem_cons_zero, Act.put, List.setIfInBounds_toArray, List.set_cons_zero, List.set_cons_succ]
        refine tk 9 (v := ?_) ?_ ?_
        rotate_left 1
        · first
            | (refine Or.inl ⟨by rfl, ?_⟩; intro w9 hSw; go_simp; (try with_reducible rfl); done)
            | (refine Or.inr ⟨by rfl, ?_⟩; rfl)
        simp only [List.getElem_toArray, List.getElem_cons_succ, List.getElem_cons_zero, Act.put, List.setIfInBounds_toArray, List.set_cons_zero, List.set_cons_succ]
        refine tk 10 (v := ?_) ?_ ?_
        rotate_left 1
        · first
            | (refine Or.inl ⟨by rfl, ?_⟩; intro w9 hSw; go_simp; (try with_reducible rfl); done)
            | (refine Or.inr ⟨by rfl, ?_⟩; rfl)
        simp only [List.getElem_toArray, List.getElem_cons_succ, List.getElem_cons_zero, Act.put, List.setIfInBounds_toArray, List.set_cons_zero, List.set_cons_succ]
        refine tk 11 (v := ?_) ?_ ?_
        rotate_left 1
        · first
            | (refine Or.inl ⟨by rfl, ?_⟩; intro w9 hSw; go_simp; (try with_reducible rfl); done)
            | (refine Or.inr ⟨by rfl, ?_⟩; rfl)
        simp only [List.getElem_toArray, List.getElem_cons_succ, List.getElem_cons_zero, Act.put, List.setIfInBounds_toArray, List.set_cons_zero, List.set_cons_succ]
        refine wpAnyH_done (by kernel_rfl) ?_ _
        clear hlk hHeld z1 c8
        obtain ⟨W5, h5, x5, l5, s5⟩ := alloc_step V 3 [.int .i64 (idxB m.typ x.base)]
        obtain ⟨rb, hrb⟩ : ∃ r, V.heap.size = r := ⟨_, rfl⟩
        obtain ⟨ix, hix⟩ : ∃ r, idxB m.typ x.base = r := ⟨_, rfl⟩
        have HB5 := Lib.hid (HBV.out.trans (l5.trans (Bel.drew W5)))
        obtain ⟨vs, hown, hvl, hvs⟩ := (HRV.out.bel (l5.trans (Bel.drew W5))).own
        rw [HTL.out] at hown
        rw [hix] at HTK
        have HI5 : Hid (IntsB W5.drew (.slice (some ⟨rb, 0, none⟩) 1 1) [ix]) := Lib.hid (by
          have h1 := intsB_one V (idxB m.typ x.base)
          have h2 : IntsB W5 (.slice (some ⟨V.heap.size, 0, none⟩) 1 1) [idxB m.typ x.base] := by rw [← h5]; exact h1
          rw [hrb, hix] at h2
          exact h2.bel (Bel.drew W5))
        have HOWN := Lib.hid hown
        have HVL := Lib.hid hvl
        have HVS := Lib.hid hvs
        have HW5 := Lib.hid h5
        have HRB := Lib.hid hrb
        have HIX := Lib.hid hix
        clear hown hvl hvs h5 x5 l5 s5 hrb hix HRV
        go_upto_region 9 with fail
        rw [show V.alloc (.cells #[.int .i64 (idxB m.typ x.base)] 3) = W5 from HW5.out, HRB.out, HIX.out]
        clear HW5
        obtain ⟨W6, hW6⟩ : ∃ X, W5.drew = X := ⟨_, rfl⟩
        rw [hW6] at HB5 HI5 HOWN HVS ⊢
        clear hW6
        go_wp2_with (at_builtin; refine wpL_append1k rfl _ _ 87 rfl B0 (by have := HB5.out.size; have := HB0.out; rw [World.size_alloc]; omega) 84 (.slice none 0 0) 1 24 Tryz.underlying87 info_row rfl (by decide) (by decide) _ j vs rfl (own_bel HOWN.out (Bel.alloc _ _)) ⟨W6.heap.size, 0, none⟩ 1 [.slice (some ⟨rb, 0, none⟩) 1 1] rfl rfl (cell_one_new _ _ _) (by simp [Value.oneCell']) (by omega) ?_; intro g cap w6 hown6 hg6; have HR6 := Lib.hid (RowsI.snoc (own_bel HOWN.out (Bel.alloc _ _)) HVL.out HTL.out (fun k x l hk hl => (HVS.out k x l hk hl).bel (Bel.alloc _ _)) (HI5.out.bel (Bel.alloc _ _)) hown6 hg6); have HB6 := Lib.hid (own_grown (own_bel HOWN.out (Bel.alloc _ _)) (HB5.out.to_alloc _) hg6 (by rw [HB0.out]; exact Nat.le_refl _)); clear hown6 hg6)
        rw [← HTK.out] at HR6
        exact ⟨⟨j + 1, _, _, by go_num, rfl, by omega, HR6, HB6⟩, by simp [intOf]; omega⟩
      · rw [decide_eq_false hm, show (typC m.typ x.base).getD int0 = .int .i64 0 from by unfold typC; rw [if_neg hm]; rfl] at hlk
        rw [if_neg hm] at hnn
        have HTK : Hid ((basesM m).take (j + 1) = (basesM m).take j ++ [[]]) := Lib.hid (by rw [List.take_add_one, hnn]; rfl)
        clear hx hcl hcl2 hvn hxs hnn hV hxV hbV hsV hib k3 HRW HB hS2 hm
        go_upto_region 6 with fail
        rw [show wr.alloc (.cells #[.string x.nm, .string x.base, .bool x.te.any, .bool x.te.no, .slice va vn vc] 54) = V from HVN.out, HIB.out]
        clear HVN g0 g1 g2 g3 g4
        refine wp_region_held_drew (S := fun w' => Bel V w') (by kernel_rfl) (by (repeat (first | exact Bel.refl _ | assumption | refine Bel.to_drewN ?_ _ | refine Bel.to_drew ?_ | refine Bel.to_setCell ?_ (by first | exact Nat.le_refl _ | (simp; done) | (simp; omega) | omega) _ | refine Bel.to_alloc ?_ _ | refine Bel.trans ?_ (by assumption)))) (fun hHeld => ?_)
        refine tk 0 (v := ?_) ?_ ?_
        rotate_left 1
        · first
            | (refine Or.inl ⟨by rfl, ?_⟩; intro w9 hSw; have e9_0 := Bel.keep hSw c8; have e9_1 := Bel.keep hSw z1; go_simp; (try with_reducible rfl); done)
            | (refine Or.inr ⟨by rfl, ?_⟩; rfl)
        simp only [List.getElem_toArray, List.getElem_cons_zero, Act.put, List.setIfInBounds_toArray, List.set_cons_zero, List.set_cons_succ]
        refine tk 1 (v := ?_) ?_ ?_
        rotate_left 1
        · first
            | (refine Or.inl ⟨by rfl, ?_⟩; intro w9 hSw; have e9_0 := Bel.keep hSw c8; have e9_1 := Bel.keep hSw z1; go_simp; (try with_reducible rfl); done)
            | (refine Or.inr ⟨by rfl, ?_⟩; rfl)
        simp only [List.getElem_toArray, List.getElem_cons_succ, List.getElem_cons_zero, Act.put, List.setIfInBounds_toArray, List.set_cons_zero, List.set_cons_succ]
        refine tk 2 (v := ?_) ?_ ?_
        rotate_left 1
        · first
            | (refine Or.inl ⟨by rfl, ?_⟩; intro w9 hSw; have e9_0 := Bel.keep hSw c8; have e9_1 := Bel.keep hSw z1; go_simp; (try with_reducible rfl); done)
            | (refine Or.inr ⟨by rfl, ?_⟩; rfl)
        simp only [List.getElem_toArray, List.getElem_cons_succ, List.getElem_cons_zero, Act.put, List.setIfInBounds_toArray, List.set_cons_zero, List.set_cons_succ]
        refine tk 3 (v := ?_) ?_ ?_
        rotate_left 1
        · first
            | (refine Or.inl ⟨by rfl, ?_⟩; intro w9 hSw; have e9_0 := Bel.keep hSw c8; have e9_1 := Bel.keep hSw z1; go_simp; (try with_reducible rfl); done)
            | (refine Or.inr ⟨by rfl, ?_⟩; rfl)
        simp only [List.getElem_toArray, List.getElem_cons_succ, List.getElem_cons_zero, Act.put, List.setIfInBounds_toArray, List.set_cons_zero, List.set_cons_succ]
        refine tk 4 (v := ?_) ?_ ?_
        rotate_left 1
        · first
            | (refine Or.inl ⟨by rfl, ?_⟩; intro w9 hSw; have e9_0 := Bel.keep hSw c8; have e9_1 := Bel.keep hSw z1; go_simp; (try with_reducible rfl); done)
            | (refine Or.inr ⟨by rfl, ?_⟩; rfl)
        simp only [List.getElem_toArray, List.getElem_cons_succ, List.getElem_cons_zero, Act.put, List.setIfInBounds_toArray, List.set_cons_zero, List.set_cons_succ]
        refine tk 5 (v := ?_) ?_ ?_
        rotate_left 1
        · first
            | (refine Or.inl ⟨by rfl, ?_⟩; intro w9 hSw; have e9_0 := Bel.keep hSw c8; have e9_1 := Bel.keep hSw z1; go_simp; (try with_reducible rfl); done)
            | (refine Or.inr ⟨by rfl, ?_⟩; rfl)
        simp only [List.getElem_toArray, List.getElem_cons_succ, List.getElem_cons_zero, Act.put, List.setIfInBounds_toArray, List.set_cons_zero, List.set_cons_succ]
        refine tk 6 (v := ?_) ?_ ?_
        rotate_left 1
        · first
          | (refine Or.inl ⟨by rfl, ?_⟩; intro w9 hSw; have e9 := hlk w9 hSw; go_simp; (try with_reducible rfl); done)
          | (refine Or.inr ⟨by rfl, ?_⟩; rfl)
        simp only [List.getElem_toArray, List.getElem_cons_succ, List.getElem_cons_zero, Act.put, List.setIfInBounds_toArray, List.set_cons_zero, List.set_cons_succ]
        refine tk 7 (v := ?_) ?_ ?_
        rotate_left 1
        · first
            | (refine Or.inl ⟨by rfl, ?_⟩; intro w9 hSw; go_simp; (try with_reducible rfl); done)
            | (refine Or.inr ⟨by rfl, ?_⟩; rfl)
        simp only [List.getElem_toArray, List.getElem_cons_succ, List.getElem_cons_zero, Act.put, List.setIfInBounds_toArray, List.set_cons_zero, List.set_cons_succ]
        refine tk 8 (v := ?_) ?_ ?_
        rotate_left 1
        · first
            | (refine Or.inl ⟨by rfl, ?_⟩; intro w9 hSw; go_simp; (try with_reducible rfl); done)
            | (refine Or.inr ⟨by rfl, ?_⟩; rfl)
        simp only [List.getElem_toArray, List.getElem_cons_succ, List.getElem_cons_zero, Act.put, List.setIfInBounds_toArray, List.set_cons_zero, List.set_cons_succ]
        refine tk 9 (v := ?_) ?_ ?_
        rotate_left 1
        · first
            | (refine Or.inl ⟨by rfl, ?_⟩; intro w9 hSw; go_simp; (try with_reducible rfl); done)
            | (refine Or.inr ⟨by rfl, ?_⟩; rfl)
        simp only [List.getElem_toArray, List.getElem_cons_succ, List.getElem_cons_zero, Act.put, List.setIfInBounds_toArray, List.set_cons_zero, List.set_cons_succ]
        refine tk 10 (v := ?_) ?_ ?_
        rotate_left 1
        · first
            | (refine Or.inl ⟨by rfl, ?_⟩; intro w9 hSw; go_simp; (try with_reducible rfl); done)
            | (refine Or.inr ⟨by rfl, ?_⟩; rfl)
        simp only [List.getElem_toArray, List.getElem_cons_succ, List.getElem_cons_zero, Act.put, List.setIfInBounds_toArray, List.set_cons_zero, List.set_cons_succ]
        refine tk 11 (v := ?_) ?_ ?_
        rotate_left 1
        · first
            | (refine Or.inl ⟨by rfl, ?_⟩; intro w9 hSw; go_simp; (try with_reducible rfl); done)
            | (refine Or.inr ⟨by rfl, ?_⟩; rfl)
        simp only [List.getElem_toArray, List.getElem_cons_succ, List.getElem_cons_zero, Act.put, List.setIfInBounds_toArray, List.set_cons_zero, List.set_cons_succ]
        refine wpAnyH_done (by kernel_rfl) ?_ _
        clear hlk hHeld z1 c8
        have HB5 := Lib.hid (HBV.out.trans (Bel.drew V))
        obtain ⟨vs, hown, hvl, hvs⟩ := (HRV.out.bel (Bel.drew V)).own
        rw [HTL.out] at hown
        have HI5 : Hid (IntsB V.drew (.slice none 0 0) []) := Lib.hid (intsB_nil _)
        have HOWN := Lib.hid hown
        have HVL := Lib.hid hvl
        have HVS := Lib.hid hvs
        clear hown hvl hvs HRV
        obtain ⟨W6, hW6⟩ : ∃ X, V.drew = X := ⟨_, rfl⟩
        rw [hW6] at HB5 HI5 HOWN HVS ⊢
        clear hW6
        go_wp2_with (at_builtin; refine wpL_append1k rfl _ _ 87 rfl B0 (by have := HB5.out.size; have := HB0.out; rw [World.size_alloc]; omega) 84 (.slice none 0 0) 1 24 Tryz.underlying87 info_row rfl (by decide) (by decide) _ j vs rfl (own_bel HOWN.out (Bel.alloc _ _)) ⟨W6.heap.size, 0, none⟩ 1 [.slice none 0 0] rfl rfl (cell_one_new _ _ _) (by simp [Value.oneCell']) (by omega) ?_; intro g cap w6 hown6 hg6; have HR6 := Lib.hid (RowsI.snoc (own_bel HOWN.out (Bel.alloc _ _)) HVL.out HTL.out (fun k x l hk hl => (HVS.out k x l hk hl).bel (Bel.alloc _ _)) (HI5.out.bel (Bel.alloc _ _)) hown6 hg6); have HB6 := Lib.hid (own_grown (own_bel HOWN.out (Bel.alloc _ _)) (HB5.out.to_alloc _) hg6 (by rw [HB0.out]; exact Nat.le_refl _)); clear hown6 hg6)
        rw [← HTK.out] at HR6
        exact ⟨⟨j + 1, _, _, by go_num, rfl, by omega, HR6, HB6⟩, by simp [intOf]; omega⟩
    · have hji : ¬ (j : Int) < im := by omega
      have HBA : Hid (RowsI B0 (basesM m) (.slice oa j oc) wr) := Lib.hid (by
        have h1 := HRW.out
        rwa [List.take_of_length_le (by unfold basesM; rw [List.length_map]; have := HIT.out; omega)] at h1)
      have HS1 := Lib.hid (HS.out.go HB.out)
      obtain ⟨W1, hW1⟩ : ∃ X, X = wr := ⟨_, rfl⟩
      subst hW1
      obtain ⟨B1, hB1⟩ : ∃ b, W1.heap.size = b := ⟨_, rfl⟩
      have HB1 := Lib.hid hB1
      have HBW1 := Lib.hid HB.out
      obtain ⟨ka0, hka0⟩ : ∃ a, q.ka = a := ⟨_, rfl⟩
      obtain ⟨dn, hdn⟩ : ∃ a, q.km = a := ⟨_, rfl⟩
      obtain ⟨dc, hdc⟩ : ∃ a, q.kc = a := ⟨_, rfl⟩
      have k5 : W1.cell? ⟨cb, 5, none⟩ = some (.slice ka0 dn dc) := by rw [← hka0, ← hdn, ← hdc]; exact HS1.out.bc.at 5
      have HKN : Hid (KnsAt u ka0 m.kns ∧ m.kns.length = dn ∧ dn ≤ 1048576) := Lib.hid ⟨hka0 ▸ HS1.out.at'.kns, hdn ▸ HS1.out.at'.lk, by have := m.bulk_len; have := HBK.out; have := HS1.out.at'.lk; omega⟩
      have hdn2 : dn ≤ 1048576 := HKN.out.2.2
      obtain ⟨ba, hba⟩ : ∃ a, oa = a := ⟨_, rfl⟩
      obtain ⟨bn, hbn⟩ : ∃ a, j = a := ⟨_, rfl⟩
      clear hka0 hdn hdc hB1 HRW HB hba hbn ba bn
      go_wp2_with fail
      go_loopw [4, 50] (fun o i wr => ∃ (j : Nat) (oa : Option Addr) (oc : Nat), i = .int .i64 j ∧ o = .slice oa j oc ∧ j ≤ dn ∧ Hid (RowsI B1 ((knowsM m).take j) (.slice oa j oc) wr) ∧ Hid (Bel W1 wr)) (fun _ i _ => dn - (intOf i).toNat)
      case atStart => exact ⟨0, none, 0, rfl, rfl, Nat.zero_le _, Lib.hid (RowsI.nil _ _), Lib.hid (Bel.refl _)⟩
      case round =>
        obtain ⟨j2, oa2, oc2, rfl, rfl, hj2, HRW, HB⟩ := hrel
        by_cases hjn : j2 < dn
        · as_aux_lemma =>
          have hji : (j2 : Int) < dn := by omega
          obtain ⟨x, hx⟩ : ∃ x, m.kns[j2]? = some x := ⟨_, List.getElem?_eq_getElem (by have := HKN.out; omega)⟩
          obtain ⟨b, off, rfl, vn, vk, qq, hcl, ⟨ka, kc, rfl, _, _⟩, ⟨pa, pc, rfl, hpc, hpa⟩, hlg⟩ := HKN.out.1 j2 x hx
          obtain ⟨nea, nen, nec, lea, len, lec, lia, lim, lic, sa, om, sc, ra, rm, rc, lna, lnm, lnc, la, lm, lc, rfl, _, _, _, _, _, _, _, _, _⟩ := hlg.opened
          obtain ⟨pn, hpn⟩ : ∃ n, x.kw.length = n := ⟨_, rfl⟩
          obtain ⟨kn, hkn⟩ : ∃ n, x.ps.length = n := ⟨_, rfl⟩
          rw [hkn, hpn] at hcl
          have hcl2 := hcl.bel (HS1.out.bel.trans HB.out)
          have g0 := hcl2.get0
          have g1 := hcl2.get 1 rfl
          have g2 := hcl2.get 2 rfl
          have g3 := hcl2.get 3 rfl
          have g4 := hcl2.get 4 rfl
          have g5 := hcl2.get 5 rfl
          have g6 := hcl2.get 6 rfl
          have g7 := hcl2.get 7 rfl
          have g8 := hcl2.get 8 rfl
          have g9 := hcl2.get 9 rfl
          have g10 := hcl2.get 10 rfl
          have g11 := hcl2.get 11 rfl
          have g12 := hcl2.get 12 rfl
          have g13 := hcl2.get 13 rfl
          have g14 := hcl2.get 14 rfl
          have hxb := Md.bulk_kns (List.mem_of_getElem? hx)
          have hnn : (knowsM m)[j2]? = some (numsM m.things 2 x.kw) := by unfold knowsM; rw [List.getElem?_map, hx]; rfl
          have hns : x.kw.length ≤ 1048576 ∧ ∀ y ∈ x.kw, y.size ≤ 1073741824 := by
            have := HBK.out
            have h1 : sumS x.kw ≤ 1048576 := by unfold Kn.bulk at hxb; omega
            exact ⟨by have := len_sumS x.kw; omega, fun y hy => by have := mem_sumS x.kw y hy; omega⟩
          obtain ⟨V, hV, hxV, hbV, hsV⟩ := alloc_step wr 44 (knL x (.slice ka kn kc) (.slice pa pn pc) ⟨.slice nea nen nec, .slice lea len lec, .slice lia lim lic, .slice sa om sc, .slice ra rm rc, .slice lna lnm lnc, .slice la lm lc⟩)
          obtain ⟨ib, hib⟩ : ∃ x, wr.heap.size = x := ⟨_, rfl⟩
          rw [hib] at hxV
          have z3 : V.cell? ⟨ib, 3, none⟩ = some (.slice pa pn pc) := hxV.at 3
          have HNU := Lib.hid (numbers_c (HS1.out.go (HB.out.trans hbV)) x.kw pa pn pc 2 2 rfl (by decide) hpn (by omega) ((hpa.bel HS1.out.bel).bel (HB.out.trans hbV)) hns.2)
          have HTK : Hid ((knowsM m).take (j2 + 1) = (knowsM m).take j2 ++ [numsM m.things 2 x.kw]) := Lib.hid (by rw [List.take_add_one, hnn]; rfl)
          have HTL : Hid (((knowsM m).take j2).length = j2) := Lib.hid (by rw [List.length_take]; have := (List.getElem?_eq_some_iff.1 hnn).1; omega)
          have HBV := Lib.hid (HB.out.trans hbV)
          have HRV := Lib.hid (HRW.out.bel hbV)
          have HVN := Lib.hid hV
          have HIB := Lib.hid hib
          clear hx hcl hcl2 hpa hpc hlg hpn hkn hxb hnn hns hV hxV hbV hsV hib k5 HRW HB
          unfold knL lgC at HVN
          go_upto_region 14 with fail
          rw [show wr.alloc (.cells #[.string x.id, .string x.nm, .slice ka kn kc, .slice pa pn pc, .int .i64 x.lg.k, .int .i64 x.lg.e.k, .string x.lg.e.s, .slice nea nen nec, .slice lea len lec, .string x.lg.p, .slice lia lim lic, .slice sa om sc, .slice ra rm rc, .slice lna lnm lnc, .slice la lm lc] 44) = V from HVN.out, HIB.out]
          clear HVN g0 g1 g2 g3 g4 g5 g6 g7 g8 g9 g10 g11 g12 g13 g14
          go_wp2_with fail
          refine HNU.out.mono ?_
          rintro e5 w5 ⟨v5, rfl, hi5, hb5⟩
          have HB5 := Lib.hid (HBV.out.trans hb5)
          obtain ⟨a5, c5, rfl, hc5, _⟩ := hi5.at'
          obtain ⟨vs, hown, hvl, hvs⟩ := (HRV.out.bel hb5).own
          rw [HTL.out] at hown
          obtain ⟨nl, hnl⟩ : ∃ n, (numsM m.things 2 x.kw).length = n := ⟨_, rfl⟩
          rw [hnl] at hi5
          have HOWN := Lib.hid hown
          have HVL := Lib.hid hvl
          have HVS := Lib.hid hvs
          have HI5 := Lib.hid hi5
          rw [hnl]
          clear hown hvl hvs hi5 hnl hc5 hb5 z3 HNU HRV
          go_wp2_with (at_builtin; refine wpL_append1k rfl _ _ 87 rfl B1 (by have := HB5.out.size; have := HB1.out; rw [World.size_alloc]; omega) 84 (.slice none 0 0) 1 24 Tryz.underlying87 info_row rfl (by decide) (by decide) _ j2 vs rfl (own_bel HOWN.out (Bel.alloc _ _)) ⟨w5.heap.size, 0, none⟩ 1 [.slice a5 nl c5] rfl rfl (cell_one_new _ _ _) (by simp [Value.oneCell']) (by omega) ?_; intro g cap w6 hown6 hg6; have HR6 := Lib.hid (RowsI.snoc (own_bel HOWN.out (Bel.alloc _ _)) HVL.out HTL.out (fun k x l hk hl => (HVS.out k x l hk hl).bel (Bel.alloc _ _)) (HI5.out.bel (Bel.alloc _ _)) hown6 hg6); have HB6 := Lib.hid (own_grown (own_bel HOWN.out (Bel.alloc _ _)) (HB5.out.to_alloc _) hg6 (by rw [HB1.out]; exact Nat.le_refl _)); clear hown6 hg6)
          rw [← HTK.out] at HR6
          exact ⟨⟨j2 + 1, _, _, by go_num, rfl, by omega, HR6, HB6⟩, by simp [intOf]; omega⟩
        · have hji : ¬ (j2 : Int) < dn := by omega
          have HKA : Hid (RowsI B1 (knowsM m) (.slice oa2 j2 oc2) wr) := Lib.hid (by
            have h1 := HRW.out
            rwa [List.take_of_length_le (by unfold knowsM; rw [List.length_map]; have := HKN.out; omega)] at h1)
          have HNE := Lib.hid (needs_c (HS1.out.go HB.out) HBK.out)
          have HBA2 := Lib.hid (HBA.out.bel HB.out)
          have HBW2 := Lib.hid (HBW1.out.trans HB.out)
          clear HRW HBA HBW1 HB k5
          go_wp2_with fail
          refine HNE.out.mono ?_
          rintro e5 w5 ⟨v5, rfl, hr5, hb5⟩
          obtain ⟨a5, c5, rfl, hc5, hn5⟩ := hr5.at'
          obtain ⟨n5, hn5l⟩ : ∃ n, (needsM m).length = n := ⟨_, rfl⟩
          rw [hn5l] at hc5
          have HA := Lib.hid (HBA2.out.bel hb5).at'
          have HK := Lib.hid (HKA.out.bel hb5).at'
          have HN5 := Lib.hid hn5
          have HB5 := Lib.hid (HBW2.out.trans hb5)
          have HNL := Lib.hid hn5l
          rw [hn5l]
          clear hr5 hb5 hn5 hn5l hc5 HNE HBA2 HKA HBW2
          obtain ⟨R, hR⟩ : ∃ R, circM m = R := ⟨_, rfl⟩
          have HR : Hid (nz (([basesM m, knowsM m, needsM m].drop 0).map circE) = R) := Lib.hid hR
          have HRC := Lib.hid hR
          clear hR
          obtain ⟨V6, h6, q6, l6, s6⟩ := alloc_step w5 87 [.slice oa j oc, .slice oa2 j2 oc2, .slice a5 n5 c5]
          obtain ⟨vb, hvb⟩ : ∃ x, w5.heap.size = x := ⟨_, rfl⟩
          rw [hvb] at q6
          have HROW : Hid (∀ k, k < 3 → ∃ N a n c, [basesM m, knowsM m, needsM m][k]? = some N ∧ V6.cell? ⟨vb, k, none⟩ = some (.slice a n c) ∧ N.length = n ∧ n ≤ 1048576 ∧ PlacesN N ∧ NeedsAt V6 a N) := Lib.hid fun k hk => by
            have hbl := m.bulk_len
            have hb := HBK.out
            match k, hk with
            | 0, _ =>
              obtain ⟨a, c, e, _, hn⟩ := HA.out
              exact ⟨_, a, _, c, rfl, by rw [q6.at 0, ← e]; rfl, rfl, by unfold basesM; rw [List.length_map]; omega, bases_places m, hn.bel l6⟩
            | 1, _ =>
              obtain ⟨a, c, e, _, hn⟩ := HK.out
              exact ⟨_, a, _, c, rfl, by rw [q6.at 1, ← e]; rfl, rfl, by unfold knowsM; rw [List.length_map]; omega, knows_places m hb, hn.bel l6⟩
            | 2, _ => exact ⟨_, a5, _, c5, rfl, by rw [q6.at 2, HNL.out]; rfl, rfl, by unfold needsM; rw [List.length_map]; omega, needs_places m hb, HN5.out.bel l6⟩
          have HV6 := Lib.hid h6
          have HVB := Lib.hid hvb
          have HB6 := Lib.hid (HB5.out.trans l6)
          clear h6 q6 l6 s6 hvb HA HK HN5 HB5 HNL
          go_wp2_with fail
          rw [show w5.alloc (.cells #[.slice oa j oc, .slice oa2 j2 oc2, .slice a5 n5 c5] 87) = V6 from HV6.out, HVB.out]
          clear HV6
          go_loopw [68] (fun i wr => ∃ k : Nat, i = .int .i64 k ∧ k ≤ 3 ∧ Hid (nz (([basesM m, knowsM m, needsM m].drop k).map circE) = R) ∧ Hid (Bel V6 wr)) (fun i _ => 3 - (intOf i).toNat)
          case atStart => exact ⟨0, rfl, Nat.zero_le _, HR, Lib.hid (Bel.refl _)⟩
          case round =>
            obtain ⟨k, rfl, hk, HRK, HBK2⟩ := hrel
            by_cases hk3 : k < 3
            · as_aux_lemma =>
              have hki : (k : Int) < 3 := by omega
              obtain ⟨N, a, n, c, hN, hce, hNl, hn, hpl, hat⟩ := HROW.out k hk3
              have g0 := HBK2.out.keep hce
              have HST := Lib.hid (stuck_c N n a c wr hNl hn (by rw [← hNl]; exact hpl) (hat.bel HBK2.out))
              have hdr : nz (([basesM m, knowsM m, needsM m].drop k).map circE) = if circE N = 0 then nz (([basesM m, knowsM m, needsM m].drop (k + 1)).map circE) else circE N := by rw [drop_at hN]; rfl
              have HDR := Lib.hid (hdr.symm.trans HRK.out)
              clear hN hce hNl hpl hat hdr
              go_wp2_with fail
              refine HST.out.mono ?_
              rintro e7 w7 ⟨sn, sa, sc, rfl, hs0, hsn, hb7⟩
              have HB7 := Lib.hid (HBK2.out.trans hb7)
              by_cases hz : sn = 0
              · have HN2 : Hid (nz (([basesM m, knowsM m, needsM m].drop (k + 1)).map circE) = R) := Lib.hid (by
                  have h1 := HDR.out
                  rwa [if_pos (by unfold circE; rw [if_pos (hs0.1 hz)])] at h1)
                subst hz
                clear hs0 hb7 HDR HST
                go_wp2_with fail
                exact ⟨⟨k + 1, by go_num, by omega, HN2, HB7⟩, by simp [intOf]; omega⟩
              · have HN2 : Hid (R = 16) := Lib.hid (by
                  have h1 := HDR.out
                  have h2 : circE N = 16 := by unfold circE; rw [if_neg (fun h => hz (hs0.2 h))]
                  rw [if_neg (by rw [h2]; decide), h2] at h1
                  exact h1.symm)
                have hz1 : (0 : Int) < sn := by omega
                clear hs0 hb7 HDR HST
                go_wp2_with fail
                go_ret
                exact ⟨by rw [HRC.out, HN2.out]; rfl, HB6.out.trans HB7.out⟩
            · have hki : ¬ (k : Int) < 3 := by omega
              have HN2 : Hid (R = 0) := Lib.hid (by
                have h1 := HRK.out
                rw [List.drop_of_length_le (by simp; omega)] at h1
                exact h1.symm)
              clear HRK
              go_wp2_with fail
              go_ret
              exact ⟨by rw [HRC.out, HN2.out]; rfl, HB6.out.trans HBK2.out⟩
end Go.Proofs.YtbcdbefogfmhfaaGreatDoor
