/-
  xmlout: attributes in order: one order alone, if no two have the same name (plain).
-/
import Derived.Test.YtojeclfcgnamoaaDoorDB
import Derived.Test.YtojeclfcgnamoaaDoorSTB
namespace Go.Proofs.YtojeclfcgnamoaaDoor
open Go.Sort

theorem bytes_inj {a b : ByteArray} (h : a.data.toList = b.data.toList) : a = b := ByteArray.ext (Array.toList_inj.1 h)
theorem str_three (a b : List UInt8) : a < b ∨ a = b ∨ b < a := by
  by_cases h1 : a < b
  · exact .inl h1
  · by_cases h2 : b < a
    · exact .inr (.inr h2)
    · exact .inr (.inl (List.le_antisymm (List.not_lt.1 h2) (List.not_lt.1 h1)))
theorem ltA_iff (x y : Atr) : ltA x y = true ↔ x.1.data.toList < y.1.data.toList ∨ (x.1.data.toList = y.1.data.toList ∧ x.2.1.data.toList < y.2.1.data.toList) := by
  unfold ltA ltB6
  simp only [Bool.or_eq_true, Bool.and_eq_true, decide_eq_true_eq]
  constructor
  · rintro (h | ⟨h1, h2⟩)
    · exact .inl h
    · exact .inr ⟨by rw [h1], h2⟩
  · rintro (h | ⟨h1, h2⟩)
    · exact .inl h
    · exact .inr ⟨bytes_inj h1, h2⟩
theorem ltA_not (x y : Atr) : ltA x y = false ↔ y.1.data.toList < x.1.data.toList ∨ (x.1.data.toList = y.1.data.toList ∧ (y.2.1.data.toList < x.2.1.data.toList ∨ y.2.1.data.toList = x.2.1.data.toList)) := by
  have h := ltA_iff x y
  rw [← Bool.not_eq_true, h]
  rcases str_three x.1.data.toList y.1.data.toList with h1 | h1 | h1
  · constructor
    · intro h2; exact absurd (.inl h1) h2
    · rintro (h2 | ⟨h2, _⟩)
      · exact absurd (List.lt_trans h1 h2) (List.lt_irrefl _)
      · rw [h2] at h1; exact absurd h1 (List.lt_irrefl _)
  · constructor
    · intro h2
      rcases str_three x.2.1.data.toList y.2.1.data.toList with h3 | h3 | h3
      · exact absurd (.inr ⟨h1, h3⟩) h2
      · exact .inr ⟨h1, .inr h3.symm⟩
      · exact .inr ⟨h1, .inl h3⟩
    · rintro (h2 | ⟨_, h2⟩) (h3 | ⟨_, h3⟩)
      · exact absurd (List.lt_trans h2 h3) (List.lt_irrefl _)
      · rw [h1] at h2; exact absurd h2 (List.lt_irrefl _)
      · rw [h1] at h3; exact absurd h3 (List.lt_irrefl _)
      · rcases h2 with h2 | h2
        · exact absurd (List.lt_trans h2 h3) (List.lt_irrefl _)
        · rw [h2] at h3; exact absurd h3 (List.lt_irrefl _)
  · constructor
    · intro _; exact .inl h1
    · rintro _ (h3 | ⟨h3, _⟩)
      · exact absurd (List.lt_trans h1 h3) (List.lt_irrefl _)
      · rw [h3] at h1; exact absurd h1 (List.lt_irrefl _)
theorem swo_ltA : SWO ltA where
  irrefl x := by rw [ltA_not]; exact .inr ⟨rfl, .inr rfl⟩
  trans x y z h1 h2 := by
    rw [ltA_iff] at *
    rcases h1 with h1 | ⟨h1, g1⟩
    · rcases h2 with h2 | ⟨h2, _⟩
      · exact .inl (List.lt_trans h1 h2)
      · exact .inl (by rw [← h2]; exact h1)
    · rcases h2 with h2 | ⟨h2, g2⟩
      · exact .inl (by rw [h1]; exact h2)
      · exact .inr ⟨h1.trans h2, List.lt_trans g1 g2⟩
  ntrans x y z h1 h2 := by
    rw [ltA_not] at *
    rcases h1 with h1 | ⟨h1, g1⟩
    · rcases h2 with h2 | ⟨h2, _⟩
      · exact .inl (List.lt_trans h2 h1)
      · exact .inl (by rw [← h2]; exact h1)
    · rcases h2 with h2 | ⟨h2, g2⟩
      · exact .inl (by rw [h1]; exact h2)
      · refine .inr ⟨h1.trans h2, ?_⟩
        rcases g1 with g1 | g1
        · rcases g2 with g2 | g2
          · exact .inl (List.lt_trans g2 g1)
          · exact .inl (by rw [g2]; exact g1)
        · rcases g2 with g2 | g2
          · exact .inl (by rw [← g1]; exact g2)
          · exact .inr (g2.trans g1)
theorem ltA_eq {x y : Atr} (h1 : ltA x y = false) (h2 : ltA y x = false) : nmA x = nmA y := by
  rw [ltA_not] at h1 h2
  have hsp : x.1.data.toList = y.1.data.toList := by
    rcases h1 with h1 | ⟨h1, _⟩
    · rcases h2 with h2 | ⟨h2, _⟩
      · exact absurd (List.lt_trans h1 h2) (List.lt_irrefl _)
      · exact h2.symm
    · exact h1
  have hlo : x.2.1.data.toList = y.2.1.data.toList := by
    rcases h1 with h1 | ⟨_, h1⟩
    · rw [hsp] at h1; exact absurd h1 (List.lt_irrefl _)
    · rcases h2 with h2 | ⟨_, h2⟩
      · rw [hsp] at h2; exact absurd h2 (List.lt_irrefl _)
      · rcases h1 with h1 | h1
        · rcases h2 with h2 | h2
          · exact absurd (List.lt_trans h1 h2) (List.lt_irrefl _)
          · exact h2
        · exact h1.symm
  unfold nmA
  rw [bytes_inj hsp, bytes_inj hlo]
theorem nodup_eq {l : List Atr} (h : (l.map nmA).Nodup) {x y : Atr} (hx : x ∈ l) (hy : y ∈ l) (he : nmA x = nmA y) : x = y := by
  induction l with
  | nil => cases hx
  | cons z r ih =>
    rw [List.map_cons, List.nodup_cons] at h
    rcases List.mem_cons.1 hx with e1 | g1
    · rcases List.mem_cons.1 hy with e2 | g2
      · exact e1.trans e2.symm
      · exact absurd (by rw [← e1, he]; exact List.mem_map_of_mem g2) h.1
    · rcases List.mem_cons.1 hy with e2 | g2
      · exact absurd (by rw [← e2, ← he]; exact List.mem_map_of_mem g1) h.1
      · exact ih h.2 g1 g2
theorem sortA_perm (l : List Atr) : (sortA l).Perm l := List.mergeSort_perm _ _
theorem sortA_sorted (l : List Atr) : (sortA l).Pairwise fun x y => ltA y x = false := by
  have h := List.pairwise_mergeSort (le := fun x y => !ltA y x) (fun a b c h1 h2 => by
    simp only [Bool.not_eq_true'] at *
    exact swo_ltA.ntrans _ _ _ h2 h1) (fun a b => by
    cases h : ltA b a with
    | false => rfl
    | true => rw [swo_ltA.asymmA h]; rfl) l
  exact h.imp fun h => by simpa using h
theorem sort_unique {l l' : List Atr} (h : (l.map nmA).Nodup) (hp : l'.Perm l) (hs : l'.Pairwise fun x y => ltA y x = false) : l' = sortA l := by
  refine List.Perm.eq_of_pairwise (le := fun x y => ltA y x = false) (fun a b ha hb h1 h2 => ?_) hs (sortA_sorted l) (hp.trans (sortA_perm l).symm)
  exact nodup_eq h (hp.mem_iff.1 ha) ((sortA_perm l).mem_iff.1 hb) (ltA_eq h2 h1)
theorem sortA_length (l : List Atr) : (sortA l).length = l.length := (sortA_perm l).length_eq
/-- An array of attributes that is in order, and has these. -/
theorem sort_array {l : List Atr} {d : Array Atr} (h : (l.map nmA).Nodup) (hp : PermIn 0 l.length l.toArray d) (hs : SortedIn ltA 0 l.length d) : d = (sortA l).toArray := by
  obtain ⟨h1, _, h3⟩ := hp
  have hsz : d.size = l.length := by rw [h1]; simp
  have e1 : d.extract 0 l.length = d := by rw [← hsz]; exact Array.extract_size
  have e2 : l.toArray.extract 0 l.length = l.toArray := by
    have : l.toArray.size = l.length := by simp
    rw [← this]; exact Array.extract_size
  rw [e1, e2] at h3
  apply Array.toList_inj.1
  have h4 := sort_unique (l := l) (l' := d.toList) h (by simpa using h3) (by
    rw [List.pairwise_iff_getElem]
    intro i j hi hj hij
    have hi' : i < d.size := by simpa using hi
    have hj' : j < d.size := by simpa using hj
    have := hs i j (Nat.zero_le _) hij (by omega)
    rw [getElem!_pos d i hi', getElem!_pos d j hj'] at this
    simpa using this)
  rw [h4]
end Go.Proofs.YtojeclfcgnamoaaDoor
