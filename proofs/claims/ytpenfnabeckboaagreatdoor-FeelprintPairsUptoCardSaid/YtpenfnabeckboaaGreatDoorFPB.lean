/-
  feelprint: parts' texts stand in an expression's text, in their order (plain).
-/
import Derived.Test.YtpenfnabeckboaaGreatDoorFPA
namespace Go.Proofs.YtpenfnabeckboaaGreatDoor
open Go.RowKit

/-- Texts stand in a text, in their order. -/
def Sub : List UInt8 → List (List UInt8) → Prop
  | _, [] => True
  | s, t :: r => ∃ a b, s = a ++ (t ++ b) ∧ Sub b r
theorem Sub.pre (c : List UInt8) : ∀ {T : List (List UInt8)} {s : List UInt8}, Sub s T → Sub (c ++ s) T
  | [], _, _ => trivial
  | t :: r, s, ⟨a, b, h, h2⟩ => ⟨c ++ a, b, by rw [h, List.append_assoc], h2⟩
theorem Sub.app : ∀ {T T' : List (List UInt8)} {s s' : List UInt8}, Sub s T → Sub s' T' → Sub (s ++ s') (T ++ T')
  | [], T', s, s', _, h => h.pre s
  | t :: r, T', s, s', ⟨a, b, h, h2⟩, h' => ⟨a, b ++ s', by rw [h]; simp, h2.app h'⟩
theorem Sub.post {T : List (List UInt8)} {s : List UInt8} (h : Sub s T) (c : List UInt8) : Sub (s ++ c) T := by
  have := h.app (T' := []) (s' := c) trivial
  rwa [List.append_nil] at this
theorem Sub.one (t : List UInt8) : Sub t [t] := ⟨[], [], by simp, trivial⟩
theorem sub_part (bare : Bool) (lev : Nat) (p : Pt) : Sub (partT bare lev p) [p.t] := by
  unfold partT
  split
  · exact ((Sub.one p.t).pre [40]).post [41]
  · exact Sub.one _
theorem sub_list (bare : Bool) (ns : List ByteArray) : ∀ (P : List Pt) (i : Nat), Sub (listT bare ns i P) (P.map (·.t))
  | [], _ => trivial
  | p :: r, i => by
    unfold listT
    exact (((sub_part bare 0 p).app (sub_list bare ns r (i + 1))).pre _).pre _
theorem sub_words (bare : Bool) : ∀ (P : List Pt) (ws : List (List UInt8)), P.length ≤ ws.length → Sub (wordsT bare P ws) (P.map (·.t))
  | [], _, _ => trivial
  | p :: r, [], h => absurd h (by simp)
  | p :: r, w :: ws, h => by
    have := sub_words bare r ws (by simpa using h)
    show Sub ((w ++ partT bare 0 p) ++ wordsT bare r ws) ([p.t] ++ r.map (·.t))
    exact ((sub_part bare 0 p).pre w).app this
theorem shape_sub (q : ByteArray → List UInt8) (bare : Bool) (k : Int) (s : ByteArray) (ns : List ByteArray) (P : List Pt) (hk : 0 ≤ k ∧ k ≤ 19) (h1 : 0 ≤ partsK k → (P.length : Int) = partsK k) (h2 : partsK k = -2 → P ≠ []) :
    Sub (shapeT q bare k s ns P) (P.map (·.t)) := by
  have hc : k = 0 ∨ k = 1 ∨ k = 2 ∨ k = 3 ∨ k = 4 ∨ k = 5 ∨ k = 6 ∨ k = 7 ∨ k = 8 ∨ k = 9 ∨ k = 10 ∨ k = 11 ∨ k = 12 ∨ k = 13 ∨ k = 14 ∨ k = 15 ∨ k = 16 ∨ k = 17 ∨ k = 18 ∨ k = 19 := by omega
  have nil : ∀ {j : Int}, partsK j = 0 → (0 ≤ partsK j → (P.length : Int) = partsK j) → P = [] := fun hj h => List.eq_nil_of_length_eq_zero (by have := h (by omega); omega)
  have one : ∀ {j : Int}, partsK j = 1 → (0 ≤ partsK j → (P.length : Int) = partsK j) → ∃ a, P = [a] := fun hj h => List.length_eq_one_iff.1 (by have := h (by omega); omega)
  have two : ∀ {j : Int}, partsK j = 2 → (0 ≤ partsK j → (P.length : Int) = partsK j) → ∃ a b, P = [a, b] := fun hj h => by
    have hl : P.length = 2 := by have := h (by omega); omega
    match P, hl with
    | [a, b], _ => exact ⟨a, b, rfl⟩
  have three : ∀ {j : Int}, partsK j = 3 → (0 ≤ partsK j → (P.length : Int) = partsK j) → ∃ a b c, P = [a, b, c] := fun hj h => by
    have hl : P.length = 3 := by have := h (by omega); omega
    match P, hl with
    | [a, b, c], _ => exact ⟨a, b, c, rfl⟩
  rcases hc with rfl | rfl | rfl | rfl | rfl | rfl | rfl | rfl | rfl | rfl | rfl | rfl | rfl | rfl | rfl | rfl | rfl | rfl | rfl | rfl
  · rw [nil (j := 0) rfl h1]; trivial
  · rw [nil (j := 1) rfl h1]; trivial
  · rw [nil (j := 2) rfl h1]; trivial
  · rw [nil (j := 3) rfl h1]; trivial
  · obtain ⟨a, rfl⟩ := one (j := 4) rfl h1
    exact (sub_part bare 7 a).pre [45]
  · obtain ⟨a, b, rfl⟩ := two (j := 5) rfl h1
    exact ((sub_part bare _ a).post _).app (sub_part bare _ b)
  · obtain ⟨a, b, c, rfl⟩ := three (j := 6) rfl h1
    exact ((((sub_part bare 4 a).post _).app (sub_part bare 4 b)).post _).app (sub_part bare 4 c)
  · obtain ⟨a, b, rfl⟩ := two (j := 7) rfl h1
    refine ((sub_part bare 4 a).post _).app ?_
    show Sub (if b.k = 19 then b.t else partT bare 4 b) [b.t]
    split
    · exact Sub.one _
    · exact sub_part bare 4 b
  · obtain ⟨a, rfl⟩ := one (j := 8) rfl h1
    exact (sub_part bare 8 a).post _
  · obtain ⟨a, b, rfl⟩ := two (j := 9) rfl h1
    exact (((sub_part bare 8 a).post _).app (sub_part bare 0 b)).post _
  · match P, h2 rfl with
    | a :: r, _ => exact (((sub_part bare 8 a).post _).app (sub_list bare [] r 0)).post _
    | [], h => exact absurd rfl h
  · obtain ⟨a, b, c, rfl⟩ := three (j := 11) rfl h1
    exact sub_words bare [a, b, c] _ (by simp)
  · obtain ⟨a, b, rfl⟩ := two (j := 12) rfl h1
    exact sub_words bare [a, b] _ (by simp)
  · obtain ⟨a, b, rfl⟩ := two (j := 13) rfl h1
    exact sub_words bare [a, b] _ (by simp)
  · obtain ⟨a, b, rfl⟩ := two (j := 14) rfl h1
    exact sub_words bare [a, b] _ (by simp)
  · obtain ⟨a, rfl⟩ := one (j := 15) rfl h1
    exact sub_words bare [a] _ (by simp)
  · exact ((sub_list bare [] P 0).pre [91]).post [93]
  · exact ((sub_list bare ns P 0).pre [123]).post [125]
  · obtain ⟨a, b, rfl⟩ := two (j := 18) rfl h1
    exact (sub_words bare [a, b] _ (by simp)).post _
  · obtain ⟨a, rfl⟩ := one (j := 19) rfl h1
    exact (sub_part bare 4 a).pre _
theorem form_len {k : Int} {s : ByteArray} {nn n : Nat} {t : Bool} (h : formE k s nn n t = true) : (0 ≤ partsK k → (n : Int) = partsK k) ∧ (partsK k = -2 → n ≠ 0) := by
  unfold formE at h
  simp only [Bool.and_eq_true, Bool.not_eq_true', Bool.or_eq_false_iff, decide_eq_false_iff_not] at h
  exact ⟨fun h1 => Classical.byContradiction fun h2 => h.1.1 ⟨h1, h2⟩, fun h1 h2 => h.1.2 ⟨h1, h2⟩⟩
theorem pr_sub (q : ByteArray → List UInt8) (bare : Bool) (e : Ex) (hok : OkE e) : Sub (prE q bare e) (e.l.map (prE q bare)) := by
  obtain ⟨t, ho⟩ := hok.own
  obtain ⟨h1, h2⟩ := form_len (own_form ho)
  have h := shape_sub q bare e.k e.s e.ns (prsE q bare e.l) (own_kind ho) (by rw [prsE_map, List.length_map]; exact h1) (fun hk e' => h2 hk (by rw [prsE_map] at e'; simpa using e'))
  rw [prE_eq]
  rwa [prsE_map, List.map_map, ← prsE_map] at h

/-! The law's search. -/
/-- A text stands at a place. -/
def Occ (s t : List UInt8) (i : Nat) : Prop := i + t.length ≤ s.length ∧ (s.drop i).take t.length = t
theorem occ_least (s t : List UInt8) : ∀ n, Occ s t n → ∃ i, i ≤ n ∧ Occ s t i ∧ ∀ j, j < i → ¬ Occ s t j := by
  intro n
  induction n using Nat.strongRecOn with
  | _ n ih =>
    intro h
    by_cases hx : ∃ j, j < n ∧ Occ s t j
    · obtain ⟨j, hj, ho⟩ := hx
      obtain ⟨i, h1, h2, h3⟩ := ih j hj ho
      exact ⟨i, by omega, h2, h3⟩
    · exact ⟨n, Nat.le_refl _, h, fun j hj ho => hx ⟨j, hj, ho⟩⟩
theorem sub_greedy {s t : List UInt8} {r : List (List UInt8)} (h : Sub s (t :: r)) : ∃ i, Occ s t i ∧ (∀ j, j < i → ¬ Occ s t j) ∧ Sub (s.drop (i + t.length)) r := by
  obtain ⟨a, b, rfl, hb⟩ := h
  have ho : Occ (a ++ (t ++ b)) t a.length := ⟨by simp, by simp⟩
  obtain ⟨i, h1, h2, h3⟩ := occ_least _ _ _ ho
  refine ⟨i, h2, h3, ?_⟩
  have hd : (a ++ (t ++ b)).drop (i + t.length) = ((a ++ (t ++ b)).drop (i + t.length)).take (a.length - i) ++ b := by
    conv => lhs; rw [← List.take_append_drop (a.length - i) ((a ++ (t ++ b)).drop (i + t.length))]
    have hb2 : (a ++ (t ++ b)).drop (a.length + t.length) = b := by rw [← List.append_assoc, show a.length + t.length = (a ++ t).length from by simp, List.drop_left]
    rw [List.drop_drop, show i + t.length + (a.length - i) = a.length + t.length from by omega, hb2]
  rw [hd]
  exact hb.pre _
theorem sub_len : ∀ {T : List (List UInt8)} {s : List UInt8}, Sub s T → (∀ t ∈ T, t ≠ []) → T.length ≤ s.length
  | [], _, _, _ => Nat.zero_le _
  | t :: r, _, ⟨a, b, rfl, hb⟩, h => by
    have h1 := sub_len hb fun x hx => h x (by simp [hx])
    have h2 : 1 ≤ t.length := by
      have := h t (by simp)
      cases t with
      | nil => exact absurd rfl this
      | cons x r => simp
    simp only [List.length_append, List.length_cons]
    omega

/-! No text is empty. -/
theorem bts_ne {s : ByteArray} (h : s ≠ ⟨#[]⟩) : btsOf s ≠ [] := fun e => h (ByteArray.ext (Array.toList_eq_nil_iff.1 e))
theorem right_ne {s : ByteArray} (h : rightS s = true) : s ≠ ⟨#[]⟩ := by
  rintro rfl
  exact absurd h (by decide +kernel)
theorem canon_ne {s : ByteArray} (h : canonS s = true) : s ≠ ⟨#[]⟩ := by
  rintro rfl
  exact absurd h (by decide +kernel)
theorem const_ne {s : ByteArray} (h : s ∈ constS) : s ≠ ⟨#[]⟩ := by
  rintro rfl
  exact absurd h (by decide +kernel)
theorem app_ne_l {α : Type} {a b : List α} (h : a ≠ []) : a ++ b ≠ [] := fun e => h (List.append_eq_nil_iff.1 e).1
theorem app_ne_r {α : Type} {a b : List α} (h : b ≠ []) : a ++ b ≠ [] := fun e => h (List.append_eq_nil_iff.1 e).2
theorem words_ne (bare : Bool) (p : Pt) (P : List Pt) (w : List UInt8) (ws : List (List UInt8)) (hw : w ≠ []) : wordsT bare (p :: P) (w :: ws) ≠ [] := by
  show (w ++ partT bare 0 p) ++ wordsT bare P ws ≠ []
  exact app_ne_l (app_ne_l hw)
theorem shape_ne (q : ByteArray → List UInt8) (hq : ∀ s, q s ≠ []) (bare : Bool) (k : Int) (s : ByteArray) (ns : List ByteArray) (P : List Pt) (hk : 0 ≤ k ∧ k ≤ 19) (h1 : 0 ≤ partsK k → (P.length : Int) = partsK k)
    (h0 : k = 0 → canonS s = true) (h2 : k = 2 → s ∈ constS) (h3 : k = 3 → rightS s = true) : shapeT q bare k s ns P ≠ [] := by
  have hc : k = 0 ∨ k = 1 ∨ k = 2 ∨ k = 3 ∨ k = 4 ∨ k = 5 ∨ k = 6 ∨ k = 7 ∨ k = 8 ∨ k = 9 ∨ k = 10 ∨ k = 11 ∨ k = 12 ∨ k = 13 ∨ k = 14 ∨ k = 15 ∨ k = 16 ∨ k = 17 ∨ k = 18 ∨ k = 19 := by omega
  have one : ∀ {j : Int}, 1 ≤ partsK j → (0 ≤ partsK j → (P.length : Int) = partsK j) → ∃ a r, P = a :: r := fun hj h => by
    cases P with
    | nil => have := h (by omega); simp at this; omega
    | cons a r => exact ⟨a, r, rfl⟩
  rcases hc with rfl | rfl | rfl | rfl | rfl | rfl | rfl | rfl | rfl | rfl | rfl | rfl | rfl | rfl | rfl | rfl | rfl | rfl | rfl | rfl
  · exact bts_ne (canon_ne (h0 rfl))
  · exact hq s
  · exact bts_ne (const_ne (h2 rfl))
  · exact bts_ne (right_ne (h3 rfl))
  · exact app_ne_l (by simp)
  · exact app_ne_l (app_ne_r (app_ne_r (by simp)))
  · exact app_ne_l (app_ne_r (by simp))
  · exact app_ne_l (app_ne_r (by simp))
  · exact app_ne_r (app_ne_l (by simp))
  · exact app_ne_r (by simp)
  · exact app_ne_r (by simp)
  · obtain ⟨a, r, rfl⟩ := one (j := 11) (by decide) h1
    exact words_ne bare a r _ _ (by simp)
  · obtain ⟨a, r, rfl⟩ := one (j := 12) (by decide) h1
    exact words_ne bare a r _ _ (by simp)
  · obtain ⟨a, r, rfl⟩ := one (j := 13) (by decide) h1
    exact words_ne bare a r _ _ (by simp)
  · obtain ⟨a, r, rfl⟩ := one (j := 14) (by decide) h1
    exact words_ne bare a r _ _ (by simp)
  · obtain ⟨a, r, rfl⟩ := one (j := 15) (by decide) h1
    exact words_ne bare a r _ _ (by simp)
  · exact app_ne_r (by simp)
  · exact app_ne_r (by simp)
  · match P, h1 (by decide) with
    | [a, b], _ =>
      show (((btsOf s).take 1 ++ partT bare 0 a) ++ (([46, 46] ++ partT bare 0 b) ++ [])) ++ _ ≠ []
      exact app_ne_l (app_ne_r (app_ne_l (app_ne_l (by simp))))
    | [], h => exact absurd h (by decide)
    | [a], h => exact absurd (show (1 : Int) = 2 from h) (by decide)
    | a :: b :: c :: r, h => exact absurd h (by simp only [List.length_cons]; unfold partsK; simp; omega)
  · exact app_ne_l (app_ne_r (by simp))
theorem pr_ne (q : ByteArray → List UInt8) (hq : ∀ s, q s ≠ []) (bare : Bool) (e : Ex) (hok : OkE e) : prE q bare e ≠ [] := by
  obtain ⟨t, ho⟩ := hok.own
  have hf := own_form ho
  obtain ⟨h1, _⟩ := form_len hf
  have ht : textK e.k e.s = true := by
    unfold formE at hf
    simp only [Bool.and_eq_true] at hf
    exact hf.2.2.1
  rw [prE_eq]
  refine shape_ne q hq bare e.k e.s e.ns _ (own_kind ho) (by rw [prsE_map, List.length_map]; exact h1) (fun hk => ?_) (fun hk => ?_) (fun hk => (own_names ho).1 (by rw [hk]; rfl))
  · rw [hk] at ht; exact ht
  · rw [hk] at ht; exact of_decide_eq_true ht
theorem pr_len (q : ByteArray → List UInt8) (hq : ∀ s, q s ≠ []) (bare : Bool) (e : Ex) (hok : OkE e) : e.l.length ≤ (prE q bare e).length := by
  have h := sub_len (pr_sub q bare e hok) fun t ht => by
    obtain ⟨x, hx, rfl⟩ := List.mem_map.1 ht
    obtain ⟨i, hi⟩ := List.getElem?_of_mem hx
    exact pr_ne q hq bare x (hok.part hi)
  rwa [List.length_map] at h
end Go.Proofs.YtpenfnabeckboaaGreatDoor
