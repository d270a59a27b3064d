/-
  feelprint: how long an expression's text may be (plain).
-/
import Derived.Test.YtpenfnabeckboaaGreatDoorFPB
import Derived.Test.YtpenfnabeckboaaGreatDoorMJ
namespace Go.Proofs.YtpenfnabeckboaaGreatDoor
open Go.RowKit

theorem qB_len (s : ByteArray) : (qB s).length ≤ 2 * s.size + 2 := by
  have h := quoteL_le s.data.toList
  unfold qB btsOf
  rw [quoteB_list]
  unfold quoteL at h
  simp at h ⊢
  omega
theorem qB_ne (s : ByteArray) : qB s ≠ [] := by
  unfold qB btsOf
  rw [quoteB_list]
  simp
/-- What parts, names take at most. -/
def ptsB (P : List Pt) : Nat := (P.map fun p => p.t.length + 20).sum
def nmsB (ns : List ByteArray) : Nat := (ns.map fun x => x.size + 2).sum
theorem btsOf_len (s : ByteArray) : (btsOf s).length = s.size := by unfold btsOf; rw [Array.length_toList]; rfl
theorem part_len (bare : Bool) (lev : Nat) (p : Pt) : (partT bare lev p).length ≤ p.t.length + 2 := by
  unfold partT
  split
  · simp
  · omega
theorem ptsB_cons (p : Pt) (P : List Pt) : ptsB (p :: P) = p.t.length + 20 + ptsB P := by simp [ptsB]
theorem list_len (bare : Bool) (ns : List ByteArray) : ∀ (P : List Pt) (i : Nat), (listT bare ns i P).length + nmsB (ns.drop (i + P.length)) ≤ ptsB P + nmsB (ns.drop i)
  | [], i => by simp [listT, ptsB]
  | p :: r, i => by
    have h := list_len bare ns r (i + 1)
    have hp := part_len bare 0 p
    unfold listT
    rw [ptsB_cons]
    rw [show i + (p :: r).length = i + 1 + r.length from by simp; omega]
    have h0 : (if i = 0 then ([] : List UInt8) else [44, 32]).length ≤ 2 := by split <;> simp
    simp only [List.length_append]
    cases hx : ns[i]? with
    | none =>
      have h1 : ns.drop i = [] := List.drop_eq_nil_of_le (List.getElem?_eq_none_iff.1 hx)
      have h2 : ns.drop (i + 1) = [] := List.drop_eq_nil_of_le (by have := List.getElem?_eq_none_iff.1 hx; omega)
      rw [h1]
      rw [h2] at h
      simp only [List.length_nil]
      omega
    | some x =>
      obtain ⟨hl, hg⟩ := List.getElem?_eq_some_iff.1 hx
      rw [List.drop_eq_getElem_cons hl, hg]
      simp only [nmsB, List.map_cons, List.sum_cons, List.length_append, List.length_cons, List.length_nil, btsOf_len] at h ⊢
      omega
theorem join_len : ∀ ns : List ByteArray, (joinT ns).length ≤ nmsB ns
  | [] => by simp [joinT]
  | [x] => by simp [joinT, nmsB, btsOf_len]
  | x :: y :: r => by
    have h := join_len (y :: r)
    simp only [joinT, nmsB, List.length_append, List.map_cons, List.sum_cons, btsOf_len, List.length_cons, List.length_nil] at h ⊢
    omega
theorem shape_len (bare : Bool) (k : Int) (s : ByteArray) (ns : List ByteArray) (P : List Pt) (hk : 0 ≤ k ∧ k ≤ 19) (h1 : 0 ≤ partsK k → (P.length : Int) = partsK k) (h2 : partsK k = -2 → P ≠ []) :
    (shapeT qB bare k s ns P).length ≤ 20 * s.size + 40 + ptsB P + nmsB ns := by
  have hc : k = 0 ∨ k = 1 ∨ k = 2 ∨ k = 3 ∨ k = 4 ∨ k = 5 ∨ k = 6 ∨ k = 7 ∨ k = 8 ∨ k = 9 ∨ k = 10 ∨ k = 11 ∨ k = 12 ∨ k = 13 ∨ k = 14 ∨ k = 15 ∨ k = 16 ∨ k = 17 ∨ k = 18 ∨ k = 19 := by omega
  have nil : ∀ {j : Int}, partsK j = 0 → (0 ≤ partsK j → (P.length : Int) = partsK j) → P = [] := fun hj h => List.eq_nil_of_length_eq_zero (by have := h (by omega); omega)
  have one : ∀ {j : Int}, partsK j = 1 → (0 ≤ partsK j → (P.length : Int) = partsK j) → ∃ a, P = [a] := fun hj h => List.length_eq_one_iff.1 (by have := h (by omega); omega)
  have two : ∀ {j : Int}, partsK j = 2 → (0 ≤ partsK j → (P.length : Int) = partsK j) → ∃ a b, P = [a, b] := fun hj h => by
    have hl : P.length = 2 := by have := h (by omega); omega
    match P, hl with
    | [a, b], _ => exact ⟨a, b, rfl⟩
  have three : ∀ {j : Int}, partsK j = 3 → (0 ≤ partsK j → (P.length : Int) = partsK j) → ∃ a b c, P = [a, b, c] := fun hj h => by
    have hl : P.length = 3 := by have := h (by omega); omega
    match P, hl with
    | [a, b, c], _ => exact ⟨a, b, c, rfl⟩
  have hq := qB_len s
  have hb := btsOf_len s
  have hj := join_len ns
  have hL := list_len bare ns P 0
  have hL0 := list_len bare [] P 0
  have hLt := list_len bare [] P.tail 0
  simp only [List.drop_nil, List.drop_zero, Nat.zero_add, nmsB, List.map_nil, List.sum_nil, Nat.add_zero] at hL hL0 hLt
  rcases hc with rfl | rfl | rfl | rfl | rfl | rfl | rfl | rfl | rfl | rfl | rfl | rfl | rfl | rfl | rfl | rfl | rfl | rfl | rfl | rfl
  · show (btsOf s).length ≤ _; omega
  · show (qB s).length ≤ _; omega
  · show (btsOf s).length ≤ _; omega
  · show (btsOf s).length ≤ _; omega
  · obtain ⟨a, rfl⟩ := one (j := 4) rfl h1
    have := part_len bare 7 a
    show ([45] ++ partT bare 7 a).length ≤ _
    simp only [List.length_append, List.length_cons, List.length_nil, ptsB_cons]
    omega
  · obtain ⟨a, b, rfl⟩ := two (j := 5) rfl h1
    have ha := part_len bare (if (signLv s).getD 0 = 3 then 4 else (signLv s).getD 0) a
    have hbb := part_len bare ((signLv s).getD 0 + 1) b
    show ((partT bare _ a ++ ([32] ++ btsOf s ++ [32])) ++ partT bare _ b).length ≤ _
    simp only [List.length_append, List.length_cons, List.length_nil, ptsB_cons]
    omega
  · obtain ⟨a, b, c, rfl⟩ := three (j := 6) rfl h1
    have ha := part_len bare 4 a
    have hbb := part_len bare 4 b
    have hc := part_len bare 4 c
    show (partT bare 4 a ++ [32, 98, 101, 116, 119, 101, 101, 110, 32] ++ partT bare 4 b ++ [32, 97, 110, 100, 32] ++ partT bare 4 c).length ≤ _
    simp only [List.length_append, List.length_cons, List.length_nil, ptsB_cons]
    omega
  · obtain ⟨a, b, rfl⟩ := two (j := 7) rfl h1
    have ha := part_len bare 4 a
    have hbb := part_len bare 4 b
    show (partT bare 4 a ++ [32, 105, 110, 32] ++ (if b.k = 19 then b.t else partT bare 4 b)).length ≤ _
    simp only [List.length_append, List.length_cons, List.length_nil, ptsB_cons]
    split <;> omega
  · obtain ⟨a, rfl⟩ := one (j := 8) rfl h1
    have ha := part_len bare 8 a
    show (partT bare 8 a ++ ([46] ++ btsOf s)).length ≤ _
    simp only [List.length_append, List.length_cons, List.length_nil, ptsB_cons]
    omega
  · obtain ⟨a, b, rfl⟩ := two (j := 9) rfl h1
    have ha := part_len bare 8 a
    have hbb := part_len bare 0 b
    show (partT bare 8 a ++ [91] ++ partT bare 0 b ++ [93]).length ≤ _
    simp only [List.length_append, List.length_cons, List.length_nil, ptsB_cons]
    omega
  · match P, h2 rfl with
    | a :: r, _ =>
      have ha := part_len bare 8 a
      show (partT bare 8 a ++ [40] ++ listT bare [] 0 r ++ [41]).length ≤ _
      simp only [List.length_append, List.length_cons, List.length_nil, ptsB_cons, List.tail_cons] at hLt ⊢
      omega
    | [], h => exact absurd rfl h
  · obtain ⟨a, b, c, rfl⟩ := three (j := 11) rfl h1
    have ha := part_len bare 0 a
    have hbb := part_len bare 0 b
    have hc := part_len bare 0 c
    show (([105, 102, 32] ++ partT bare 0 a) ++ (([32, 116, 104, 101, 110, 32] ++ partT bare 0 b) ++ (([32, 101, 108, 115, 101, 32] ++ partT bare 0 c) ++ []))).length ≤ _
    simp only [List.length_append, List.length_cons, List.length_nil, ptsB_cons]
    omega
  · obtain ⟨a, b, rfl⟩ := two (j := 12) rfl h1
    have ha := part_len bare 0 a
    have hbb := part_len bare 0 b
    show ((([102, 111, 114, 32] ++ btsOf s ++ [32, 105, 110, 32]) ++ partT bare 0 a) ++ (([32, 114, 101, 116, 117, 114, 110, 32] ++ partT bare 0 b) ++ [])).length ≤ _
    simp only [List.length_append, List.length_cons, List.length_nil, ptsB_cons]
    omega
  · obtain ⟨a, b, rfl⟩ := two (j := 13) rfl h1
    have ha := part_len bare 0 a
    have hbb := part_len bare 0 b
    show ((([115, 111, 109, 101, 32] ++ btsOf s ++ [32, 105, 110, 32]) ++ partT bare 0 a) ++ (([32, 115, 97, 116, 105, 115, 102, 105, 101, 115, 32] ++ partT bare 0 b) ++ [])).length ≤ _
    simp only [List.length_append, List.length_cons, List.length_nil, ptsB_cons]
    omega
  · obtain ⟨a, b, rfl⟩ := two (j := 14) rfl h1
    have ha := part_len bare 0 a
    have hbb := part_len bare 0 b
    show ((([101, 118, 101, 114, 121, 32] ++ btsOf s ++ [32, 105, 110, 32]) ++ partT bare 0 a) ++ (([32, 115, 97, 116, 105, 115, 102, 105, 101, 115, 32] ++ partT bare 0 b) ++ [])).length ≤ _
    simp only [List.length_append, List.length_cons, List.length_nil, ptsB_cons]
    omega
  · obtain ⟨a, rfl⟩ := one (j := 15) rfl h1
    have ha := part_len bare 0 a
    show ((([102, 117, 110, 99, 116, 105, 111, 110, 40] ++ joinT ns ++ [41, 32]) ++ partT bare 0 a) ++ []).length ≤ _
    simp only [List.length_append, List.length_cons, List.length_nil, ptsB_cons]
    omega
  · show ([91] ++ listT bare [] 0 P ++ [93]).length ≤ _
    simp only [List.length_append, List.length_cons, List.length_nil]
    omega
  · show ([123] ++ listT bare ns 0 P ++ [125]).length ≤ _
    simp only [List.length_append, List.length_cons, List.length_nil, nmsB] at hL ⊢
    omega
  · obtain ⟨a, b, rfl⟩ := two (j := 18) rfl h1
    have ha := part_len bare 0 a
    have hbb := part_len bare 0 b
    show ((((btsOf s).take 1 ++ partT bare 0 a) ++ (([46, 46] ++ partT bare 0 b) ++ [])) ++ (btsOf s).drop 1).length ≤ _
    have ht : ((btsOf s).take 1).length ≤ 1 := by rw [List.length_take]; omega
    have hd : ((btsOf s).drop 1).length ≤ s.size := by rw [List.length_drop]; omega
    simp only [List.length_append, List.length_cons, List.length_nil, ptsB_cons]
    omega
  · obtain ⟨a, rfl⟩ := one (j := 19) rfl h1
    have ha := part_len bare 4 a
    show (btsOf s ++ [32] ++ partT bare 4 a).length ≤ _
    simp only [List.length_append, List.length_cons, List.length_nil, ptsB_cons]
    omega
theorem nmsB_le (ns : List ByteArray) : nmsB ns ≤ 2 * (ns.map fun x => x.size + 1).sum := by
  induction ns with
  | nil => simp [nmsB]
  | cons x r ih => simp only [nmsB, List.map_cons, List.sum_cons] at ih ⊢; omega
/-- No text is longer than so many times the tree. -/
theorem pr_size (bare : Bool) : ∀ (n : Nat) (e : Ex), e.bulk ≤ n → OkE e → (prE qB bare e).length + 20 ≤ 60 * e.bulk := by
  intro n
  induction n with
  | zero => intro e he; exfalso; have := bulk_eq e; omega
  | succ n ih =>
    intro e he hok
    obtain ⟨t, ho⟩ := hok.own
    obtain ⟨h1, h2⟩ := form_len (own_form ho)
    have h := shape_len bare e.k e.s e.ns (prsE qB bare e.l) (own_kind ho) (by rw [prsE_map, List.length_map]; exact h1) (fun hk e' => h2 hk (by rw [prsE_map] at e'; simpa using e'))
    rw [prE_eq]
    have hn := nmsB_le e.ns
    have hp : ∀ (l : List Ex), (∀ x ∈ l, x.bulk ≤ n ∧ OkE x) → ptsB (prsE qB bare l) ≤ 60 * Ex.bulk.bulks l := by
      intro l
      induction l with
      | nil => intro _; simp [prsE, ptsB]
      | cons x r ihr =>
        intro hx
        have h3 := ih x (hx x (by simp)).1 (hx x (by simp)).2
        have h4 := ihr fun y hy => hx y (by simp [hy])
        unfold prsE
        rw [ptsB_cons]
        unfold Ex.bulk.bulks
        dsimp only
        omega
    have h5 := hp e.l (fun x hx => by
      obtain ⟨i, hi⟩ := List.getElem?_of_mem hx
      have := bulks_mem hx
      have hbu := bulk_eq e
      exact ⟨by omega, hok.part hi⟩)
    have hbu := bulk_eq e
    omega
end Go.Proofs.YtpenfnabeckboaaGreatDoor
