/-
  The tables that the law LogicTables makes (plain): which are right.
-/
import Derived.Test.YtchbhcjhoocjaaaGreatDoorLGP
namespace Go.Proofs.YtchbhcjhoocjaaaGreatDoor
open Go.RowKit

def oneT : Ex := .mk 0 ⟨#[49]⟩ [] []
def nullT : Ex := .mk 2 ⟨#[110, 117, 108, 108]⟩ [] []
def anyT : Te := ⟨true, false, []⟩
def outT (i : Nat) : ByteArray := ⟨#[111]⟩ ++ ⟨#[97 + UInt8.ofNat i]⟩
def outsT (k : Nat) : List ByteArray := (List.range k).map outT
def ruT (n k : Nat) : Ru := ⟨List.replicate n anyT, List.replicate k nullT⟩
def tabL (p : ByteArray) (ins : List Ex) (outs : List ByteArray) (rs : List Ru) : Lg := .mk 1 emptyE p ins outs rs [] []

theorem nz_all (l : List Nat) (h : ∀ x ∈ l, x = 0) : nz l = 0 := (nz_zero l).2 h
theorem nz_rep {α : Type} (f : α → Nat) (x : α) (h : f x = 0) (n : Nat) : nz ((List.replicate n x).map f) = 0 := nz_all _ fun y hy => by
  obtain ⟨z, hz, rfl⟩ := List.mem_map.1 hy
  rw [List.eq_of_mem_replicate hz]; exact h
theorem exprE_one : exprE oneT = 0 := by decide +kernel
theorem exprE_null : exprE nullT = 0 := by decide +kernel
theorem free_one : freeE oneT [] = [] := by decide +kernel
theorem free_null : freeE nullT [] = [] := by decide +kernel
theorem checkT_any : CheckT anyT = 0 := by decide +kernel
theorem same_empty : sameE emptyE emptyE = true := by decide +kernel
theorem named_outs : ∀ k, 1 ≤ k → k ≤ 5 → namedS (outsT k) = 0 := by
  intro k h1 h2
  match k, h1, h2 with
  | 1, _, _ => decide +kernel
  | 2, _, _ => decide +kernel
  | 3, _, _ => decide +kernel
  | 4, _, _ => decide +kernel
  | 5, _, _ => decide +kernel
theorem ruE_rep (n k : Nat) : ruE n k (ruT n k) = 0 := by
  unfold ruE ruT
  simp only [List.length_replicate, ne_eq, not_true_eq_false, or_self, if_false]
  rw [nz_rep _ _ checkT_any, if_pos rfl]
  exact nz_rep _ _ exprE_null k
theorem ruE_none (n k : Nat) (hk : 1 ≤ k) : ruE n k ⟨[], []⟩ = 17 := by
  unfold ruE
  rw [if_pos (.inr (by simp; omega))]
theorem rusE_rep (n k r : Nat) : rusE n k (List.replicate r (ruT n k)) = 0 := nz_rep _ _ (ruE_rep n k) r
theorem nz_app : ∀ (a b : List Nat), nz a = 0 → nz (a ++ b) = nz b
  | [], b, _ => rfl
  | x :: r, b, h => by
    unfold nz at h
    rw [List.cons_append]
    conv => lhs; unfold nz
    by_cases hx : x = 0
    · rw [if_pos hx] at h ⊢; exact nz_app r b h
    · rw [if_neg hx] at h; exact absurd h hx
theorem rusE_wrong (n k r : Nat) (hk : 1 ≤ k) : rusE n k (List.replicate r (ruT n k) ++ [⟨[], []⟩]) = 17 := by
  unfold rusE
  rw [List.map_append, nz_app _ _ (rusE_rep n k r), List.map_cons, List.map_nil, ruE_none n k hk]
  rfl
theorem tab_form (p : ByteArray) (ins : List Ex) (outs : List ByteArray) (rs : List Ru) (h : 0 < outs.length) : formL (tabL p ins outs rs) = decide (p ∈ polS) := by
  have hk : (tabL p ins outs rs).k = 1 := rfl
  have he : (tabL p ins outs rs).e = emptyE := rfl
  have hn : (tabL p ins outs rs).ns = [] := rfl
  have hl : (tabL p ins outs rs).l = [] := rfl
  have ho : (tabL p ins outs rs).outs = outs := rfl
  have hp : (tabL p ins outs rs).p = p := rfl
  unfold formL
  rw [hk, he, hn, hl, ho, hp, if_neg (by decide), if_pos rfl, same_empty, decide_eq_true (p := 0 < outs.length) h]
  simp
theorem tab_check (p : ByteArray) (n k : Nat) (hk : 1 ≤ k) (hk5 : k ≤ 5) (rs : List Ru) : CheckL (tabL p (List.replicate n oneT) (outsT k) rs) = if p ∈ polS then rusE n k rs else 17 := by
  have hlen : (outsT k).length = k := by simp [outsT]
  have hd : dL (tabL p (List.replicate n oneT) (outsT k) rs) = 1 := by rw [dL_eq]; rfl
  have hdeep : deepL (tabL p (List.replicate n oneT) (outsT k) rs) 30 = false := by rw [deepL_iff, hd]; rfl
  have hf := tab_form p (List.replicate n oneT) (outsT k) rs (by omega)
  unfold CheckL
  rw [hdeep, if_neg (by simp), checkL_eq]
  have ho : ownL (tabL p (List.replicate n oneT) (outsT k) rs) = if p ∈ polS then rusE n k rs else 17 := by
    unfold ownL
    rw [show (tabL p (List.replicate n oneT) (outsT k) rs).k = 1 from rfl, if_neg (by decide), hf]
    by_cases hp : p ∈ polS
    · rw [decide_eq_true hp, if_neg (by simp), if_pos hp]
      unfold fiveL
      have h1 : namedS (givenL (tabL p (List.replicate n oneT) (outsT k) rs).k (tabL p (List.replicate n oneT) (outsT k) rs).ns) = 0 := by
        rw [show (tabL p (List.replicate n oneT) (outsT k) rs).k = 1 from rfl, show (tabL p (List.replicate n oneT) (outsT k) rs).ns = [] from rfl]; decide +kernel
      have h2 : namedS (tabL p (List.replicate n oneT) (outsT k) rs).outs = 0 := named_outs k hk hk5
      have h3 : (if (tabL p (List.replicate n oneT) (outsT k) rs).k = 0 ∨ (tabL p (List.replicate n oneT) (outsT k) rs).k = 3 then exprsE [(tabL p (List.replicate n oneT) (outsT k) rs).e] else 0) = 0 := by
        rw [show (tabL p (List.replicate n oneT) (outsT k) rs).k = 1 from rfl, if_neg (by decide)]
      have h4 : exprsE (tabL p (List.replicate n oneT) (outsT k) rs).ins = 0 := nz_rep _ _ exprE_one n
      rw [h1, h2, h3, h4]
      have h5 : rusE (tabL p (List.replicate n oneT) (outsT k) rs).ins.length (tabL p (List.replicate n oneT) (outsT k) rs).outs.length (tabL p (List.replicate n oneT) (outsT k) rs).rs = rusE n k rs := by
        rw [show (tabL p (List.replicate n oneT) (outsT k) rs).ins = List.replicate n oneT from rfl, show (tabL p (List.replicate n oneT) (outsT k) rs).outs = outsT k from rfl, show (tabL p (List.replicate n oneT) (outsT k) rs).rs = rs from rfl, List.length_replicate, hlen]
      rw [h5]
      generalize rusE n k rs = x
      unfold nz nz nz nz nz nz
      by_cases hx : x = 0
      · simp [hx]
      · simp [hx]
    · rw [decide_eq_false hp, if_pos rfl, if_neg hp]
  rw [ho]
  have hl : (tabL p (List.replicate n oneT) (outsT k) rs).l = [] := rfl
  rw [hl, List.map_nil, show nz [] = 0 from rfl]
  generalize (if p ∈ polS then rusE n k rs else 17) = x
  by_cases h : x = 0
  · rw [if_pos h, h]
  · rw [if_neg h]
theorem tab_right (p : ByteArray) (n k r : Nat) (hk : 1 ≤ k) (hk5 : k ≤ 5) : CheckL (tabL p (List.replicate n oneT) (outsT k) (List.replicate r (ruT n k))) = if p ∈ polS then 0 else 17 := by
  rw [tab_check p n k hk hk5, rusE_rep]
theorem tab_wrong (p : ByteArray) (n k r : Nat) (hk : 1 ≤ k) (hk5 : k ≤ 5) : CheckL (tabL p (List.replicate n oneT) (outsT k) (List.replicate r (ruT n k) ++ [⟨[], []⟩])) = 17 := by
  rw [tab_check p n k hk hk5, rusE_wrong n k r hk]
  split <;> rfl
theorem tab_free (p : ByteArray) (n k r : Nat) : freeL (tabL p (List.replicate n oneT) (outsT k) (List.replicate r (ruT n k))) [] = [] := by
  rw [List.eq_nil_iff_forall_not_mem]
  intro x hx
  rw [mem_freeL0] at hx
  rcases hx with ⟨e, he, hx⟩ | ⟨j, y, hy, _⟩
  · unfold partsL at he
    rw [show (tabL p (List.replicate n oneT) (outsT k) (List.replicate r (ruT n k))).k = 1 from rfl, if_neg (by decide), List.nil_append] at he
    rcases List.mem_append.1 he with h | h
    · rw [List.eq_of_mem_replicate (show e ∈ List.replicate n oneT from h), free_one] at hx
      cases hx
    · obtain ⟨ru, hru, h⟩ := List.mem_flatMap.1 h
      rw [List.eq_of_mem_replicate (show ru ∈ List.replicate r (ruT n k) from hru)] at h
      unfold ruParts ruT at h
      rcases List.mem_append.1 h with h | h
      · obtain ⟨t, ht, h⟩ := List.mem_flatMap.1 h
        rw [List.eq_of_mem_replicate ht] at h
        cases h
      · rw [List.eq_of_mem_replicate h, free_null] at hx
        cases hx
  · cases hy
theorem bulks_rep (n : Nat) (x : Ex) : Ex.bulk.bulks (List.replicate n x) = n * x.bulk := by
  induction n with
  | zero => simp [Ex.bulk.bulks]
  | succ n ih => rw [List.replicate_succ]; unfold Ex.bulk.bulks; rw [ih, Nat.succ_mul]; omega
theorem tbulks_rep (n : Nat) (x : Te) : tbulks (List.replicate n x) = n * x.bulk := by
  induction n with
  | zero => simp [tbulks]
  | succ n ih => rw [List.replicate_succ]; unfold tbulks; rw [ih, Nat.succ_mul]; omega
theorem rbulks_rep (n : Nat) (x : Ru) : rbulks (List.replicate n x) = n * x.bulk := by
  induction n with
  | zero => simp [rbulks]
  | succ n ih => rw [List.replicate_succ]; unfold rbulks; rw [ih, Nat.succ_mul]; omega
theorem sumS_outs : ∀ k, k ≤ 5 → sumS (outsT k) ≤ 15 := by
  intro k h
  match k, h with
  | 0, _ => decide
  | 1, _ => decide
  | 2, _ => decide
  | 3, _ => decide
  | 4, _ => decide
  | 5, _ => decide
theorem tab_bulk (p : ByteArray) (n k : Nat) (hn : n ≤ 5) (hk : k ≤ 5) (rs : List Ru) (hrs : rbulks rs ≤ 40 * (ruT n k).bulk + 2) : (tabL p (List.replicate n oneT) (outsT k) rs).bulk ≤ p.size + 10000 := by
  rw [lbulk_eq]
  rw [show (tabL p (List.replicate n oneT) (outsT k) rs).e = emptyE from rfl, show (tabL p (List.replicate n oneT) (outsT k) rs).p = p from rfl, show (tabL p (List.replicate n oneT) (outsT k) rs).ins = List.replicate n oneT from rfl, show (tabL p (List.replicate n oneT) (outsT k) rs).outs = outsT k from rfl, show (tabL p (List.replicate n oneT) (outsT k) rs).rs = rs from rfl, show (tabL p (List.replicate n oneT) (outsT k) rs).ns = [] from rfl, show (tabL p (List.replicate n oneT) (outsT k) rs).l = [] from rfl]
  have h1 := sumS_outs k hk
  have h2 : (ruT n k).bulk ≤ 200 := by
    unfold ruT Ru.bulk
    dsimp only
    rw [tbulks_rep, bulks_rep, show anyT.bulk = 2 from rfl, show nullT.bulk = 5 from by decide]
    omega
  have h3 : Ex.bulk.bulks (List.replicate n oneT) ≤ 50 := by rw [bulks_rep, show oneT.bulk = 2 from by decide]; omega
  have h4 : emptyE.bulk = 1 := by decide
  have h5 : sumS [] = 0 := by decide
  have h6 : lbulks [] = 0 := by unfold lbulks; rfl
  rw [h5, h6]
  omega
theorem pol_size {p : ByteArray} (h : p ∈ polS) : p.size ≤ 12 := by
  have ha : ∀ x ∈ polS, x.size ≤ 12 := by decide
  exact ha p h
end Go.Proofs.YtchbhcjhoocjaaaGreatDoor
