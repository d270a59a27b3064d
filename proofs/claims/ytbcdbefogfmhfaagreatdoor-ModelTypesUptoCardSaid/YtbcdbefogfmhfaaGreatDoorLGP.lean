/-
  Logics (plain): right ones, their names, and that those in scope are those that are free.
-/
import Derived.Test.YtbcdbefogfmhfaaGreatDoorLGA
namespace Go.Proofs.YtbcdbefogfmhfaaGreatDoor
open Go.RowKit
theorem checkE_ok {e : Ex} (h : CheckE e = 0) : OkE e := by
  unfold CheckE at h
  split at h
  · cases h
  · exact ⟨true, h⟩
mutual
/-- Right, as far as its names go. -/
def OkL : Lg → Prop
  | .mk k e p ins outs rs ns l => (∀ x ∈ partsL (.mk k e p ins outs rs ns l), OkE x) ∧ (k = 2 → ns.length = l.length ∧ ∀ x ∈ ns.take (ns.length - 1), rightS x = true) ∧ OksL l
def OksL : List Lg → Prop
  | [] => True
  | x :: r => OkL x ∧ OksL r
end
theorem OksL_all : ∀ l : List Lg, OksL l ↔ ∀ x ∈ l, OkL x
  | [] => by unfold OksL; simp
  | x :: r => by unfold OksL; rw [OksL_all r]; simp
theorem OkL_eq (l : Lg) : OkL l ↔ (∀ x ∈ partsL l, OkE x) ∧ (l.k = 2 → l.ns.length = l.l.length ∧ ∀ x ∈ l.ns.take (l.ns.length - 1), rightS x = true) ∧ ∀ x ∈ l.l, OkL x := by
  obtain ⟨k, e, p, ins, outs, rs, ns, l⟩ := l
  rw [← OksL_all]
  conv => lhs; unfold OkL
  rfl
theorem exprs_ok {l : List Ex} (h : exprsE l = 0) : ∀ x ∈ l, OkE x := fun x hx => by
  have h1 := (nz_zero _).1 h (exprE x) (List.mem_map_of_mem hx)
  unfold exprE at h1
  split at h1
  · exact checkE_ok (by assumption)
  · exact absurd h1 (by assumption)
theorem tests_ok {t : Te} (h : CheckT t = 0) : ∀ x ∈ t.l, OkE x := fun x hx => by
  unfold CheckT at h
  split at h
  · cases h
  · exact checkE_ok ((nz_zero _).1 h (CheckE x) (List.mem_map_of_mem hx))
theorem ru_ok {ni no : Nat} {r : Ru} (h : ruE ni no r = 0) : ∀ x ∈ ruParts r, OkE x := fun x hx => by
  unfold ruE at h
  split at h
  · cases h
  · split at h
    · rename_i h1
      rcases List.mem_append.1 hx with hx | hx
      · obtain ⟨t, ht, hx⟩ := List.mem_flatMap.1 hx
        exact tests_ok ((nz_zero _).1 h1 _ (List.mem_map_of_mem ht)) x hx
      · exact exprs_ok h x hx
    · exact absurd h (by assumption)
theorem rus_ok {ni no : Nat} {l : List Ru} (h : rusE ni no l = 0) : ∀ r ∈ l, ∀ x ∈ ruParts r, OkE x := fun _ hr => ru_ok ((nz_zero _).1 h _ (List.mem_map_of_mem hr))
theorem parts_ok {l : Lg} (h1 : (if l.k = 0 ∨ l.k = 3 then exprsE [l.e] else 0) = 0) (h2 : exprsE l.ins = 0) (h3 : rusE l.ins.length l.outs.length l.rs = 0) : ∀ x ∈ partsL l, OkE x := fun x hx => by
  unfold partsL at hx
  rcases List.mem_append.1 hx with hx | hx
  · split at hx
    · rw [if_pos (by assumption)] at h1
      exact exprs_ok h1 x hx
    · cases hx
  · rcases List.mem_append.1 hx with hx | hx
    · exact exprs_ok h2 x hx
    · obtain ⟨r, hr, hx⟩ := List.mem_flatMap.1 hx
      exact rus_ok h3 r hr x hx
theorem named_ok {l : List ByteArray} (h : namedS l = 0) : (∀ x ∈ l, rightS x = true) ∧ l.Nodup := by
  unfold namedS at h
  split at h
  · cases h
  · split at h
    · cases h
    · rename_i h1 h2
      refine ⟨fun x hx => ?_, Decidable.not_not.1 h2⟩
      cases hr : rightS x with
      | true => rfl
      | false => exact absurd (List.any_eq_true.2 ⟨x, hx, by rw [hr]; rfl⟩) h1
theorem given_ok {ns : List ByteArray} (h : namedS (givenL 2 ns) = 0) : ∀ x ∈ ns.take (ns.length - 1), rightS x = true := fun x hx => by
  have h1 := (named_ok h).1
  unfold givenL at h1
  split at h1
  · exact h1 x hx
  · exact h1 x (List.mem_of_mem_take hx)
theorem form_two {l : Lg} (h : formL l = true) (hk : l.k = 2) : l.ns.length = l.l.length ∧ 0 < l.l.length ∧ bareL l = true := by
  unfold formL at h
  rw [if_neg (by omega), if_neg (by omega), if_pos hk] at h
  simp only [Bool.and_eq_true, decide_eq_true_eq] at h
  exact ⟨h.2.2.2, h.2.2.1, h.2.1⟩
theorem own_parts {l : Lg} (h : ownL l = 0) : (0 ≤ l.k ∧ l.k ≤ 3) ∧ formL l = true ∧ ∀ x ∈ fiveL l, x = 0 := by
  unfold ownL at h
  split at h
  · cases h
  · split at h
    · cases h
    · rename_i h1 h2
      exact ⟨Decidable.not_not.1 h1, by simpa using h2, (nz_zero _).1 h⟩
theorem checkL_ok : ∀ l : Lg, checkL l = 0 → OkL l := by
  refine lg_ind fun l ih => ?_
  intro h
  rw [checkL_eq] at h
  split at h
  · rename_i h1
    obtain ⟨_, hf, h5⟩ := own_parts h1
    have g1 := h5 _ (List.mem_cons_self ..)
    have g3 := h5 (if l.k = 0 ∨ l.k = 3 then exprsE [l.e] else 0) (by unfold fiveL; simp)
    have g4 := h5 (exprsE l.ins) (by unfold fiveL; simp)
    have g5 := h5 (rusE l.ins.length l.outs.length l.rs) (by unfold fiveL; simp)
    refine (OkL_eq l).2 ⟨parts_ok g3 g4 g5, fun hk => ⟨(form_two hf hk).1, given_ok (by rw [← hk]; exact g1)⟩, fun x hx => ?_⟩
    obtain ⟨i, hi⟩ := List.mem_iff_getElem?.1 hx
    exact ih i x hi ((nz_zero _).1 h _ (List.mem_map_of_mem hx))
  · exact absurd h (by assumption)
theorem CheckL_ok {l : Lg} (h : CheckL l = 0) : OkL l := by
  unfold CheckL at h
  split at h
  · cases h
  · exact checkL_ok l h
theorem OkL.part {l : Lg} (h : OkL l) {i : Nat} {x : Lg} (hx : l.l[i]? = some x) : OkL x := ((OkL_eq l).1 h).2.2 x (List.mem_of_getElem? hx)
theorem bulks_app : ∀ a b : List Ex, Ex.bulk.bulks (a ++ b) = Ex.bulk.bulks a + Ex.bulk.bulks b
  | [], b => by simp [Ex.bulk.bulks]
  | x :: a, b => by
    rw [List.cons_append]
    conv => lhs; unfold Ex.bulk.bulks
    conv => rhs; unfold Ex.bulk.bulks
    rw [bulks_app a b]
    cases b <;> simp [Ex.bulk.bulks] <;> omega
end Go.Proofs.YtbcdbefogfmhfaaGreatDoor
