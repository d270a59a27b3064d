/-
  The stable sort of Go's slices (zsortanyfunc.go: swapRange, rotate, symMerge, stable), row for row, in plain Lean: it is sorted, and a permutation.
-/
import Derived.Sort.LotA
namespace Go.Proofs.YtojeclfcgnamoaaDoor
open Go.Sort
section
variable {α : Type} [Inhabited α]

/-- swapRange, from round i on, k rounds left. -/
def swR (a b : Nat) : Nat → Nat → Array α → Array α
  | _, 0, d => d
  | i, k + 1, d => swR a b (i + 1) k (swp d (a + i) (b + i))
theorem swR_size (a b : Nat) : ∀ (k i : Nat) (d : Array α), (swR a b i k d).size = d.size
  | 0, _, _ => rfl
  | k + 1, i, d => by unfold swR; rw [swR_size a b k, size_swp]
theorem swR_get (a b : Nat) : ∀ (k i : Nat) (d : Array α), a + i + k ≤ b → b + i + k ≤ d.size → ∀ x, (swR a b i k d)[x]! =
    if a + i ≤ x ∧ x < a + i + k then d[x - a + b]! else if b + i ≤ x ∧ x < b + i + k then d[x - b + a]! else d[x]!
  | 0, i, d, _, _, x => by
    unfold swR
    rw [if_neg (by omega), if_neg (by omega)]
  | k + 1, i, d, h1, h2, x => by
    unfold swR
    rw [swR_get a b k (i + 1) _ (by omega) (by rw [size_swp]; omega) x]
    have hsw : ∀ y, (swp d (a + i) (b + i))[y]! = if y = b + i then d[a + i]! else if y = a + i then d[b + i]! else d[y]! := fun y => swp_get d (by omega) (by omega) y
    by_cases c1 : a + (i + 1) ≤ x ∧ x < a + (i + 1) + k
    · rw [if_pos c1, if_pos (by omega), hsw, if_neg (by omega), if_neg (by omega)]
    · rw [if_neg c1]
      by_cases c2 : b + (i + 1) ≤ x ∧ x < b + (i + 1) + k
      · rw [if_pos c2, if_neg (by omega), if_pos (by omega), hsw, if_neg (by omega), if_neg (by omega)]
      · rw [if_neg c2, hsw]
        by_cases c3 : x = b + i
        · rw [if_pos c3, if_neg (by omega), if_pos (by omega)]
          congr 1
          omega
        · rw [if_neg c3]
          by_cases c4 : x = a + i
          · rw [if_pos c4, if_pos (by omega)]
            congr 1
            omega
          · rw [if_neg c4, if_neg (by omega), if_neg (by omega)]
theorem swR_perm (a b lo hi : Nat) : ∀ (k i : Nat) (d : Array α), lo ≤ a + i → a + i + k ≤ b → b + i + k ≤ hi → hi ≤ d.size → PermIn lo hi d (swR a b i k d)
  | 0, i, d, _, _, _, _ => permIn_refl d lo hi
  | k + 1, i, d, h1, h2, h3, h4 => by
    unfold swR
    exact permIn_trans _ _ _ _ _ (swp_permIn d lo hi (a + i) (b + i) (by omega) (by omega) (by omega) (by omega) h4)
      (swR_perm a b lo hi k (i + 1) _ (by omega) (by omega) (by omega) (by rw [size_swp]; exact h4))
/-- rotate. -/
def rotF (m : Nat) : Nat → Nat → Nat → Array α → Array α
  | 0, _, _, d => d
  | f + 1, i, j, d => if i = j then swR (m - i) m 0 i d else if j < i then rotF m f (i - j) j (swR (m - i) m 0 j d) else rotF m f i (j - i) (swR (m - i) (m + j - i) 0 i d)
theorem rotF_spec (m lo hi : Nat) : ∀ (f i j : Nat) (d : Array α), i + j ≤ f → 1 ≤ i → 1 ≤ j → i ≤ m → lo ≤ m - i → m + j ≤ hi → hi ≤ d.size →
    PermIn lo hi d (rotF m f i j d) ∧ ∀ x, (rotF m f i j d)[x]! = if m - i ≤ x ∧ x < m - i + j then d[x + i]! else if m - i + j ≤ x ∧ x < m + j then d[x - j]! else d[x]!
  | 0, i, j, d, hf, h1, h2, _, _, _, _ => by omega
  | f + 1, i, j, d, hf, h1, h2, h3, h4, h5, h6 => by
    unfold rotF
    by_cases e : i = j
    · subst e
      rw [if_pos rfl]
      refine ⟨swR_perm _ _ lo hi i 0 d (by omega) (by omega) (by omega) h6, fun x => ?_⟩
      rw [swR_get _ _ i 0 d (by omega) (by omega) x]
      by_cases c1 : m - i ≤ x ∧ x < m - i + i
      · rw [if_pos (by omega), if_pos c1]
        congr 1
        omega
      · rw [if_neg (by omega), if_neg c1]
        by_cases c2 : m - i + i ≤ x ∧ x < m + i
        · rw [if_pos (by omega), if_pos c2]
          congr 1
          omega
        · rw [if_neg (by omega), if_neg c2]
    · rw [if_neg e]
      by_cases g : j < i
      · rw [if_pos g]
        have hp := swR_perm (m - i) m lo hi j 0 d (by omega) (by omega) (by omega) h6
        have hs := swR_size (m - i) m j 0 d
        have hg := swR_get (m - i) m j 0 d (by omega) (by omega)
        generalize swR (m - i) m 0 j d = d1 at hp hs hg
        obtain ⟨r1, r2⟩ := rotF_spec m lo hi f (i - j) j d1 (by omega) (by omega) h2 (by omega) (by omega) h5 (by omega)
        refine ⟨permIn_trans _ _ _ _ _ hp r1, fun x => ?_⟩
        rw [r2 x, hg x, hg (x + (i - j)), hg (x - j)]
        by_cases c1 : m - i ≤ x ∧ x < m - i + j
        · rw [if_pos c1, if_neg (by omega), if_neg (by omega), if_pos (by omega)]
          congr 1
          omega
        · rw [if_neg c1]
          by_cases c2 : m - i + j ≤ x ∧ x < m + j
          · rw [if_pos c2]
            by_cases c3 : x < m - i + j + j
            · rw [if_pos (by omega), if_neg (by omega), if_pos (by omega)]
              congr 1
              omega
            · rw [if_neg (by omega), if_pos (by omega), if_neg (by omega), if_neg (by omega)]
          · rw [if_neg c2, if_neg (by omega), if_neg (by omega), if_neg (by omega), if_neg (by omega)]
      · rw [if_neg g]
        have hp := swR_perm (m - i) (m + j - i) lo hi i 0 d (by omega) (by omega) (by omega) h6
        have hs := swR_size (m - i) (m + j - i) i 0 d
        have hg := swR_get (m - i) (m + j - i) i 0 d (by omega) (by omega)
        generalize swR (m - i) (m + j - i) 0 i d = d1 at hp hs hg
        obtain ⟨r1, r2⟩ := rotF_spec m lo hi f i (j - i) d1 (by omega) h1 (by omega) h3 h4 (by omega) (by omega)
        refine ⟨permIn_trans _ _ _ _ _ hp r1, fun x => ?_⟩
        rw [r2 x, hg x, hg (x + i), hg (x - (j - i))]
        by_cases c1 : m - i ≤ x ∧ x < m - i + j
        · rw [if_pos c1]
          by_cases c3 : x < m - i + (j - i)
          · rw [if_pos (by omega), if_neg (by omega), if_neg (by omega)]
          · rw [if_neg (by omega), if_pos (by omega), if_pos (by omega)]
            congr 1
            omega
        · rw [if_neg c1]
          by_cases c2 : m - i + j ≤ x ∧ x < m + j
          · rw [if_pos c2, if_neg (by omega), if_neg (by omega), if_neg (by omega), if_pos (by omega)]
            congr 1
            omega
          · rw [if_neg c2, if_neg (by omega), if_neg (by omega), if_neg (by omega), if_neg (by omega)]
/-- The binary search that all have: where p ends to hold. -/
def bs (p : Nat → Bool) (i j : Nat) : Nat := if i < j then (if p ((i + j) / 2) = true then bs p ((i + j) / 2 + 1) j else bs p i ((i + j) / 2)) else i
termination_by j - i
theorem bs_stop (p : Nat → Bool) (i j : Nat) (h : ¬ i < j) : bs p i j = i := by rw [bs, if_neg h]
theorem bs_go (p : Nat → Bool) (i j : Nat) (h : i < j) : bs p i j = if p ((i + j) / 2) = true then bs p ((i + j) / 2 + 1) j else bs p i ((i + j) / 2) := by rw [bs, if_pos h]
theorem bs_spec (p : Nat → Bool) : ∀ (n i j : Nat), j - i ≤ n → i ≤ j → i ≤ bs p i j ∧ bs p i j ≤ j ∧ (bs p i j = i ∨ p (bs p i j - 1) = true) ∧ (bs p i j = j ∨ p (bs p i j) = false)
  | 0, i, j, h1, h2 => by
    rw [bs_stop p i j (by omega)]
    exact ⟨Nat.le_refl _, h2, .inl rfl, .inl (by omega)⟩
  | n + 1, i, j, h1, h2 => by
    by_cases h : i < j
    · rw [bs_go p i j h]
      by_cases hp : p ((i + j) / 2) = true
      · rw [if_pos hp]
        obtain ⟨g1, g2, g3, g4⟩ := bs_spec p n ((i + j) / 2 + 1) j (by omega) (by omega)
        refine ⟨by omega, g2, .inr ?_, g4⟩
        rcases g3 with g3 | g3
        · rw [g3, Nat.add_sub_cancel]; exact hp
        · exact g3
      · rw [if_neg hp]
        obtain ⟨g1, g2, g3, g4⟩ := bs_spec p n i ((i + j) / 2) (by omega) (by omega)
        refine ⟨g1, by omega, g3, .inr ?_⟩
        rcases g4 with g4 | g4
        · rw [g4]; simpa using hp
        · exact g4
    · rw [bs_stop p i j h]
      exact ⟨Nat.le_refl _, h2, .inl rfl, .inl (by omega)⟩
/-- An element goes up, past its neighbours, to a place; k rounds. -/
def shU : Nat → Nat → Array α → Array α
  | _, 0, d => d
  | i, k + 1, d => shU (i + 1) k (swp d i (i + 1))
def shD : Nat → Nat → Array α → Array α
  | _, 0, d => d
  | i, k + 1, d => shD (i - 1) k (swp d i (i - 1))
theorem shU_spec (lo hi : Nat) : ∀ (k i : Nat) (d : Array α), lo ≤ i → i + k < hi → hi ≤ d.size → PermIn lo hi d (shU i k d) ∧ ∀ x, (shU i k d)[x]! = if i ≤ x ∧ x < i + k then d[x + 1]! else if x = i + k then d[i]! else d[x]!
  | 0, i, d, _, _, _ => by
    refine ⟨permIn_refl d lo hi, fun x => ?_⟩
    unfold shU
    rw [if_neg (by omega)]
    by_cases h : x = i
    · rw [if_pos (by omega), h]
    · rw [if_neg (by omega)]
  | k + 1, i, d, h1, h2, h3 => by
    unfold shU
    have hsw : ∀ y, (swp d i (i + 1))[y]! = if y = i + 1 then d[i]! else if y = i then d[i + 1]! else d[y]! := fun y => swp_get d (by omega) (by omega) y
    have hp := swp_permIn d lo hi i (i + 1) (by omega) (by omega) (by omega) (by omega) h3
    have hs := size_swp d i (i + 1)
    generalize swp d i (i + 1) = d1 at hsw hp hs
    obtain ⟨r1, r2⟩ := shU_spec lo hi k (i + 1) d1 (by omega) (by omega) (by omega)
    refine ⟨permIn_trans _ _ _ _ _ hp r1, fun x => ?_⟩
    rw [r2 x, hsw x, hsw (x + 1), hsw (i + 1), if_pos rfl]
    by_cases c1 : i ≤ x ∧ x < i + (k + 1)
    · rw [if_pos c1]
      by_cases c2 : x = i
      · rw [if_neg (by omega), if_neg (by omega), if_neg (by omega), if_pos c2, c2]
      · rw [if_pos (by omega), if_neg (by omega), if_neg (by omega)]
    · rw [if_neg c1]
      by_cases c2 : x = i + (k + 1)
      · rw [if_pos c2, if_neg (by omega), if_pos (by omega)]
      · rw [if_neg c2, if_neg (by omega), if_neg (by omega), if_neg (by omega), if_neg (by omega)]
theorem shD_spec (lo hi : Nat) : ∀ (k i : Nat) (d : Array α), lo + k ≤ i → i < hi → hi ≤ d.size → PermIn lo hi d (shD i k d) ∧ ∀ x, (shD i k d)[x]! = if i - k < x ∧ x ≤ i then d[x - 1]! else if x = i - k then d[i]! else d[x]!
  | 0, i, d, _, _, _ => by
    refine ⟨permIn_refl d lo hi, fun x => ?_⟩
    unfold shD
    rw [if_neg (by omega)]
    by_cases h : x = i
    · rw [if_pos (by omega), h]
    · rw [if_neg (by omega)]
  | k + 1, i, d, h1, h2, h3 => by
    unfold shD
    have hsw : ∀ y, (swp d i (i - 1))[y]! = if y = i - 1 then d[i]! else if y = i then d[i - 1]! else d[y]! := fun y => swp_get d (by omega) (by omega) y
    have hp := swp_permIn d lo hi i (i - 1) (by omega) (by omega) (by omega) (by omega) h3
    have hs := size_swp d i (i - 1)
    generalize swp d i (i - 1) = d1 at hsw hp hs
    obtain ⟨r1, r2⟩ := shD_spec lo hi k (i - 1) d1 (by omega) (by omega) (by omega)
    refine ⟨permIn_trans _ _ _ _ _ hp r1, fun x => ?_⟩
    rw [r2 x, hsw x, hsw (x - 1), hsw (i - 1), if_pos rfl]
    by_cases c1 : i - (k + 1) < x ∧ x ≤ i
    · rw [if_pos c1]
      by_cases c2 : x = i
      · rw [if_neg (by omega), if_neg (by omega), if_neg (by omega), if_pos c2, c2]
      · rw [if_pos (by omega), if_neg (by omega), if_neg (by omega)]
    · rw [if_neg c1]
      by_cases c2 : x = i - (k + 1)
      · rw [if_pos c2, if_neg (by omega), if_pos (by omega)]
      · rw [if_neg c2, if_neg (by omega), if_neg (by omega), if_neg (by omega), if_neg (by omega)]
end
end Go.Proofs.YtojeclfcgnamoaaDoor
