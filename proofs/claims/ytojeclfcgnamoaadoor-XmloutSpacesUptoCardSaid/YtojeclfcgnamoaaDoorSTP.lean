/-
  A row of nodes of the call's own: its cells, a store of one node, what it holds at the end.
-/
import Derived.Test.YtojeclfcgnamoaaDoorSTO
namespace Go.Proofs.YtojeclfcgnamoaaDoor
open Go.RowKit Go.Sort Go.Shelf Go.Lib

/-- A node's cells, in a list. -/
def ndC (x : Nd × Value × Value) : List Value := [.int .i64 x.1.t, .string x.1.sp, .string x.1.lo, x.2.1, x.2.2, .string x.1.tx]
theorem ndC_len (x : Nd × Value × Value) : (ndC x).length = 6 := rfl
theorem flatN_len : ∀ l : List (Nd × Value × Value), (l.flatMap ndC).length = l.length * 6
  | [] => rfl
  | x :: r => by rw [List.flatMap_cons, List.length_append, flatN_len r, List.length_cons, ndC_len]; omega
theorem flatN_get : ∀ (l : List (Nd × Value × Value)) (i : Nat) (x : Nd × Value × Value) (c : Nat), l[i]? = some x → c < 6 → (l.flatMap ndC)[i * 6 + c]? = (ndC x)[c]?
  | y :: r, 0, x, c, h, hc => by
    cases h
    rw [List.flatMap_cons, Nat.zero_mul, Nat.zero_add, List.getElem?_append_left (by rw [ndC_len]; exact hc)]
  | y :: r, i + 1, x, c, h, hc => by
    rw [List.flatMap_cons, List.getElem?_append_right (by rw [ndC_len]; omega), ndC_len, show (i + 1) * 6 + c - 6 = i * 6 + c from by omega]
    exact flatN_get r i x c h hc
theorem nds_list {W : World} {b : Nat} : ∀ (l : List Nd) (off : Nat), NdsAt W b off l → ∃ L : List (Nd × Value × Value), L.map (fun x => x.1) = l ∧ (∀ j u, (L.flatMap ndC)[j]? = some u → W.cell? ⟨b, off + j, none⟩ = some u) ∧ ∀ x ∈ L, NdAt W x.1 x.2.1 x.2.2
  | [], off, _ => ⟨[], rfl, (fun j u h => by cases h), (fun x h => by cases h)⟩
  | .mk t sp lo al ks tx :: r, off, h => by
    unfold NdsAt at h
    obtain ⟨⟨va, vk, c0, c1, c2, c3, c4, c5, h1⟩, h2⟩ := h
    obtain ⟨L, e1, e2, e3⟩ := nds_list r (off + 6) h2
    refine ⟨(.mk t sp lo al ks tx, va, vk) :: L, by rw [List.map_cons, e1], fun j u hj => ?_, fun x hx => ?_⟩
    · rw [List.flatMap_cons] at hj
      by_cases c : j < 6
      · rw [List.getElem?_append_left (by rw [ndC_len]; exact c)] at hj
        match j, c with
        | 0, _ => cases hj; exact c0
        | 1, _ => cases hj; exact c1
        | 2, _ => cases hj; exact c2
        | 3, _ => cases hj; exact c3
        | 4, _ => cases hj; exact c4
        | 5, _ => cases hj; exact c5
      · rw [List.getElem?_append_right (by rw [ndC_len]; omega), ndC_len] at hj
        have := e2 _ _ hj
        rwa [show off + 6 + (j - 6) = off + j from by omega] at this
    · rcases List.mem_cons.1 hx with rfl | hx
      · exact h1
      · exact e3 x hx
theorem nds_of {W : World} {b : Nat} : ∀ (L : List (Nd × Value × Value)) (off : Nat), (∀ j u, (L.flatMap ndC)[j]? = some u → W.cell? ⟨b, off + j, none⟩ = some u) → (∀ x ∈ L, NdAt W x.1 x.2.1 x.2.2) → NdsAt W b off (L.map fun x => x.1)
  | [], off, _, _ => by unfold List.map NdsAt; trivial
  | (.mk t sp lo al ks tx, va, vk) :: L, off, h, hx => by
    rw [List.map_cons]
    unfold NdsAt
    have hc : ∀ c u, c < 6 → (ndC (.mk t sp lo al ks tx, va, vk))[c]? = some u → W.cell? ⟨b, off + c, none⟩ = some u := fun c u c6 hu => h c u (by rw [List.flatMap_cons, List.getElem?_append_left (by rw [ndC_len]; exact c6)]; exact hu)
    refine ⟨⟨va, vk, hc 0 _ (by decide) rfl, hc 1 _ (by decide) rfl, hc 2 _ (by decide) rfl, hc 3 _ (by decide) rfl, hc 4 _ (by decide) rfl, hc 5 _ (by decide) rfl, hx _ (List.mem_cons_self ..)⟩, nds_of L (off + 6) (fun j u hj => ?_) fun x hx2 => hx x (List.mem_cons_of_mem _ hx2)⟩
    have := h (6 + j) u (by rw [List.flatMap_cons, List.getElem?_append_right (by rw [ndC_len]; omega), ndC_len, show 6 + j - 6 = j from by omega]; exact hj)
    rwa [show off + (6 + j) = off + 6 + j from by omega] at this
/-- A store into a row of one's own. -/
theorem own_put {w : World} {B g cap n m j : Nat} {e : TypeId} {cs : List Value} (h : w.ownsRow B e m (.slice (some ⟨g, 0, none⟩) n cap) n cs) (v : Value) :
    (w.setCell ⟨g, j, none⟩ v).ownsRow B e m (.slice (some ⟨g, 0, none⟩) n cap) n (cs.set j v) := by
  obtain ⟨hl, ⟨e0, _⟩ | ⟨g', cap', cur, e0, hg, hh, hc, hm, hs, ht⟩⟩ := h
  · cases e0
  · injection e0 with e1 _ e3
    injection e1 with e1
    injection e1 with e1
    subst e1
    subst e3
    refine ⟨by rw [List.length_set]; exact hl, .inr ⟨g, cap, cur.setIfInBounds j v, rfl, hg, ?_, hc, hm, by simpa using hs, ?_⟩⟩
    · simp [World.setCell, Array.getElem?_modify, hh]
    · rw [← ht, Array.toList_setIfInBounds, List.take_set]
/-- Six stores one behind the other into a list. -/
theorem set6 : ∀ (L : List (Nd × Value × Value)) (i : Nat) (x y : Nd × Value × Value), L[i]? = some x →
    ((((((L.flatMap ndC).set (i * 6) (.int .i64 y.1.t)).set (i * 6 + 1) (.string y.1.sp)).set (i * 6 + 2) (.string y.1.lo)).set (i * 6 + 3) y.2.1).set (i * 6 + 4) y.2.2).set (i * 6 + 5) (.string y.1.tx) = (L.set i y).flatMap ndC
  | z :: r, 0, x, y, h => by
    simp only [List.flatMap_cons, ndC, Nat.zero_mul, Nat.zero_add, List.cons_append, List.nil_append, List.set_cons_zero, List.set_cons_succ]
  | z :: r, i + 1, x, y, h => by
    have ih := set6 r i x y h
    rw [List.set_cons_succ, List.flatMap_cons, List.flatMap_cons, ← ih]
    rw [show (i + 1) * 6 = i * 6 + 6 from by omega]
    simp only [ndC, List.cons_append, List.nil_append, show ∀ a b : Nat, a + 6 + b = (a + b) + 6 from fun a b => by omega, List.set_cons_succ]
end Go.Proofs.YtojeclfcgnamoaaDoor
