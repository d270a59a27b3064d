/-
  The law's spaces held against the prefixes (plain).
-/
import Derived.Test.YtojeclfcgnamoaaDoorXD
namespace Go.Proofs.YtojeclfcgnamoaaDoor

theorem atrs_perm {a b : List Atr} (h : a.Perm b) (x : ByteArray) : occA a x = occA b x := (h.map _).sum_nat
mutual
theorem occ_sort : ∀ (n : Nd) (x : ByteArray), occN (sortN n) x = occN n x
  | .mk t sp lo al ks tx, x => by
    rw [sortN, occN, occN, atrs_perm (sortA_perm al) x, occs_sort ks x]
theorem occs_sort : ∀ (l : List Nd) (x : ByteArray), occsN (sortsN l) x = occsN l x
  | [], x => by rw [sortsN]
  | y :: r, x => by rw [sortsN, occsN, occsN, occ_sort y x, occs_sort r x]
end
theorem one_pos {s : ByteArray} (h : s ≠ ⟨#[]⟩) : one s s = 1 := by unfold one; rw [if_pos ⟨rfl, h⟩]
theorem one_of {s x : ByteArray} (h : 0 < one s x) : s = x ∧ s ≠ ⟨#[]⟩ := by
  unfold one at h
  split at h
  · assumption
  · omega
theorem occA_of : ∀ (al : List Atr) (x : ByteArray), 0 < occA al x → ∃ a ∈ al, a.1 = x ∧ x ≠ ⟨#[]⟩
  | [], x, h => by simp [occA] at h
  | a :: r, x, h => by
    by_cases h1 : 0 < one a.1 x
    · obtain ⟨e, hn⟩ := one_of h1
      exact ⟨a, List.mem_cons_self .., e, e ▸ hn⟩
    · obtain ⟨b, hb, e⟩ := occA_of r x (by unfold occA at h ⊢; rw [List.map_cons, List.sum_cons] at h; omega)
      exact ⟨b, List.mem_cons_of_mem _ hb, e⟩
theorem occA_pos : ∀ (al : List Atr) (a : Atr), a ∈ al → a.1 ≠ ⟨#[]⟩ → 0 < occA al a.1
  | b :: r, a, h, hn => by
    unfold occA
    rw [List.map_cons, List.sum_cons]
    rcases List.mem_cons.1 h with rfl | h
    · rw [one_pos hn]; omega
    · have := occA_pos r a h hn
      unfold occA at this
      omega
mutual
theorem cov_occ : ∀ (n : Nd) (L : List Pr6) (s : ByteArray), covN L n → 0 < occN n s → s ∈ L.map Prod.snd
  | .mk t sp lo al ks tx, L, s, hc, h => by
    rw [covN] at hc
    rw [occN] at h
    by_cases h1 : 0 < one sp s
    · obtain ⟨rfl, hn⟩ := one_of h1
      exact hc.1.resolve_left hn
    · by_cases h2 : 0 < occA al s
      · obtain ⟨a, ha, rfl, hn⟩ := occA_of al s h2
        exact (hc.2.1 a ha).resolve_left hn
      · exact covs_occ ks L s hc.2.2 (by omega)
theorem covs_occ : ∀ (l : List Nd) (L : List Pr6) (s : ByteArray), covsN L l → 0 < occsN l s → s ∈ L.map Prod.snd
  | [], L, s, _, h => by rw [occsN] at h; omega
  | x :: r, L, s, hc, h => by
    rw [covsN] at hc
    rw [occsN] at h
    by_cases h1 : 0 < occN x s
    · exact cov_occ x L s hc.1 h1
    · exact covs_occ r L s hc.2 (by omega)
end
mutual
theorem occ_all : ∀ (n : Nd) (Q : ByteArray → Prop), (∀ s, 0 < occN n s → Q s) → allN (fun s => s = ⟨#[]⟩ ∨ Q s) n
  | .mk t sp lo al ks tx, Q, h => by
    rw [allN]
    refine ⟨?_, fun a ha => ?_, occs_all ks Q fun s hs => h s (by rw [occN]; omega)⟩
    · by_cases hs : sp = ⟨#[]⟩
      · exact .inl hs
      · exact .inr (h sp (by rw [occN, one_pos hs]; omega))
    · by_cases hs : a.1 = ⟨#[]⟩
      · exact .inl hs
      · exact .inr (h a.1 (by rw [occN]; have := occA_pos al a ha hs; omega))
theorem occs_all : ∀ (l : List Nd) (Q : ByteArray → Prop), (∀ s, 0 < occsN l s → Q s) → allsN (fun s => s = ⟨#[]⟩ ∨ Q s) l
  | [], _, _ => by rw [allsN]; trivial
  | x :: r, Q, h => by
    rw [allsN]
    exact ⟨occ_all x Q fun s hs => h s (by rw [occsN]; omega), occs_all r Q fun s hs => h s (by rw [occsN]; omega)⟩
end
/-- What the prefixes are, held against the counts. -/
theorem prefN_occ (n : Nd) : (∀ p ∈ PrefN n, p.2 ≠ ⟨#[]⟩ ∧ p.1 ≠ ⟨#[]⟩ ∧ 0 < occN n p.2) ∧ ∀ s, 0 < occN n s → s ∈ (PrefN n).map Prod.snd := by
  have ho := prefN_ok n
  refine ⟨fun p hp => ?_, fun s hs => cov_occ (sortN n) _ s (cov_met _ _) (by rw [occ_sort]; exact hs)⟩
  obtain ⟨h1, h2⟩ := ho.each p hp
  refine ⟨h1, ?_, ?_⟩
  · rcases h2 with ⟨_, h⟩ | ⟨_, h⟩ | ⟨_, _, i, _, _, h⟩
    · rw [h]; decide +kernel
    · rw [h]; decide +kernel
    · rw [h]
      intro e
      have := congrArg (fun b : ByteArray => b.data.toList) e
      simp [numP] at this
  · have h3 := met_all (P := fun s => s = ⟨#[]⟩ ∨ 0 < occN n s) (sortN n) [] (by simp) (occ_all _ _ fun s hs => by rw [occ_sort] at hs; exact hs) p hp
    exact h3.resolve_left h1
/-! The counts that are left, the names met. -/
open Classical in
noncomputable def leftF (n : Nd) (L : List Pr6) (j : Nat) (s : ByteArray) : Nat := if s ∈ (L.take j).map Prod.snd then 0 else occN n s
open Classical in
noncomputable def nmF (L : List Pr6) (j : Nat) (s : ByteArray) : Nat := if s ∈ (L.take j).map Prod.fst then 1 else 0
theorem take_get {α β : Type} {f : α → β} {L : List α} {j : Nat} {p : α} (h : L[j]? = some p) (x : β) : x ∈ (L.take (j + 1)).map f ↔ x ∈ (L.take j).map f ∨ x = f p := by
  rw [List.take_add_one, h]
  simp
theorem nodup_take {α β : Type} {f : α → β} {L : List α} {j : Nat} {p : α} (hn : (L.map f).Nodup) (h : L[j]? = some p) : f p ∉ (L.take j).map f := fun hm => by
  obtain ⟨q, hq, he⟩ := List.mem_map.1 hm
  obtain ⟨i, hi⟩ := List.mem_iff_getElem?.1 hq
  rw [List.getElem?_take] at hi
  split at hi
  · rename_i hij
    have h1 : (L.map f)[i]? = some (f p) := by rw [List.getElem?_map, hi, Option.map_some, he]
    have h2 : (L.map f)[j]? = some (f p) := by rw [List.getElem?_map, h, Option.map_some]
    have hl := (List.getElem?_eq_some_iff.1 h1).1
    have := (List.getElem?_inj hl hn).1 (h1.trans h2.symm)
    omega
  · cases hi
theorem left_start (n : Nd) (L : List Pr6) : leftF n L 0 = occN n := by funext s; simp [leftF]
theorem nm_start (L : List Pr6) : nmF L 0 = fun _ => 0 := by funext s; simp [nmF]
theorem left_step {n : Nd} {L : List Pr6} {j : Nat} {p : Pr6} (h : L[j]? = some p) : (fun x => if x = p.2 then 0 else leftF n L j x) = leftF n L (j + 1) := by
  funext x
  unfold leftF
  by_cases hx : x = p.2
  · rw [if_pos hx, if_pos ((take_get h x).2 (.inr hx))]
  · rw [if_neg hx]
    by_cases hm : x ∈ (L.take j).map Prod.snd
    · rw [if_pos hm, if_pos ((take_get h x).2 (.inl hm))]
    · rw [if_neg hm, if_neg fun e => ((take_get h x).1 e).elim hm hx]
theorem left_now {n : Nd} {L : List Pr6} {j : Nat} {p : Pr6} (hn : (L.map Prod.snd).Nodup) (h : L[j]? = some p) : leftF n L j p.2 = occN n p.2 := by
  unfold leftF
  rw [if_neg (nodup_take hn h)]
theorem nm_now {L : List Pr6} {j : Nat} {p : Pr6} (hn : (L.map Prod.fst).Nodup) (h : L[j]? = some p) : nmF L j p.1 = 0 := by
  unfold nmF
  rw [if_neg (nodup_take hn h)]
theorem nm_step {L : List Pr6} {j : Nat} {p : Pr6} (hn : (L.map Prod.fst).Nodup) (h : L[j]? = some p) : (fun x => if x = p.1 then nmF L j p.1 + 1 else nmF L j x) = nmF L (j + 1) := by
  funext x
  rw [nm_now hn h]
  unfold nmF
  by_cases hx : x = p.1
  · rw [if_pos hx, if_pos ((take_get h x).2 (.inr hx))]
  · rw [if_neg hx]
    by_cases hm : x ∈ (L.take j).map Prod.fst
    · rw [if_pos hm, if_pos ((take_get h x).2 (.inl hm))]
    · rw [if_neg hm, if_neg fun e => ((take_get h x).1 e).elim hm hx]
theorem left_end (n : Nd) {j : Nat} (hj : (PrefN n).length ≤ j) (s : ByteArray) : leftF n (PrefN n) j s = 0 := by
  unfold leftF
  rw [List.take_of_length_le hj]
  split
  · rfl
  · rename_i h
    have := (prefN_occ n).2 s
    by_cases h0 : 0 < occN n s
    · exact absurd (this h0) h
    · omega
theorem left_le (n : Nd) (L : List Pr6) (j : Nat) (s : ByteArray) : leftF n L j s ≤ n.bulk := by
  unfold leftF
  have := occN_le n s
  split <;> omega
end Go.Proofs.YtojeclfcgnamoaaDoor
