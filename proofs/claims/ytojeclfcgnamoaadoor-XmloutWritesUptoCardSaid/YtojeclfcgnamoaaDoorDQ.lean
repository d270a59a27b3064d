/-
  The stable sort of Go's slices (zsortanyfunc.go: swapRange, rotate, symMerge, stable), row for row, in plain Lean: it is sorted, and a permutation.
  The stable sort of Go's slices in plain Lean: symMerge merges, stable sorts.
  xmlout: attributes in order: one order alone, if no two have the same name (plain).
  xmlout: right trees, what is so of trees that pass Check (plain).
-/
import Derived.Sort.LotA
import Derived.Test.YtojeclfcgnamoaaDoorDP
import Derived.Test.YtojeclfcgnamoaaDoorMT
namespace Go.Proofs.YtojeclfcgnamoaaDoor
open Go.Sort
section
variable {α : Type} [Inhabited α]

/-- swapRange, from round i on, k rounds left. -/
def swR (a b : Nat) : Nat → Nat → Array α → Array α
  | _, 0, d => d
  | i, k + 1, d => swR a b (i + 1) k (swp d (a + i) (b + i))
theorem swR_size (a b : Nat) : ∀ (k i : Nat) (d : Array α), (swR a b i k d).size = d.size
  | 0, _, _ => rfl
  | k + 1, i, d => by unfold swR; rw [swR_size a b k, size_swp]
theorem swR_get (a b : Nat) : ∀ (k i : Nat) (d : Array α), a + i + k ≤ b → b + i + k ≤ d.size → ∀ x, (swR a b i k d)[x]! =
    if a + i ≤ x ∧ x < a + i + k then d[x - a + b]! else if b + i ≤ x ∧ x < b + i + k then d[x - b + a]! else d[x]!
  | 0, i, d, _, _, x => by
    unfold swR
    rw [if_neg (by omega), if_neg (by omega)]
  | k + 1, i, d, h1, h2, x => by
    unfold swR
    rw [swR_get a b k (i + 1) _ (by omega) (by rw [size_swp]; omega) x]
    have hsw : ∀ y, (swp d (a + i) (b + i))[y]! = if y = b + i then d[a + i]! else if y = a + i then d[b + i]! else d[y]! := fun y => swp_get d (by omega) (by omega) y
    by_cases c1 : a + (i + 1) ≤ x ∧ x < a + (i + 1) + k
    · rw [if_pos c1, if_pos (by omega), hsw, if_neg (by omega), if_neg (by omega)]
    · rw [if_neg c1]
      by_cases c2 : b + (i + 1) ≤ x ∧ x < b + (i + 1) + k
      · rw [if_pos c2, if_neg (by omega), if_pos (by omega), hsw, if_neg (by omega), if_neg (by omega)]
      · rw [if_neg c2, hsw]
        by_cases c3 : x = b + i
        · rw [if_pos c3, if_neg (by omega), if_pos (by omega)]
          congr 1
          omega
        · rw [if_neg c3]
          by_cases c4 : x = a + i
          · rw [if_pos c4, if_pos (by omega)]
            congr 1
            omega
          · rw [if_neg c4, if_neg (by omega), if_neg (by omega)]
theorem swR_perm (a b lo hi : Nat) : ∀ (k i : Nat) (d : Array α), lo ≤ a + i → a + i + k ≤ b → b + i + k ≤ hi → hi ≤ d.size → PermIn lo hi d (swR a b i k d)
  | 0, i, d, _, _, _, _ => permIn_refl d lo hi
  | k + 1, i, d, h1, h2, h3, h4 => by
    unfold swR
    exact permIn_trans _ _ _ _ _ (swp_permIn d lo hi (a + i) (b + i) (by omega) (by omega) (by omega) (by omega) h4)
      (swR_perm a b lo hi k (i + 1) _ (by omega) (by omega) (by omega) (by rw [size_swp]; exact h4))
/-- rotate. -/
def rotF (m : Nat) : Nat → Nat → Nat → Array α → Array α
  | 0, _, _, d => d
  | f + 1, i, j, d => if i = j then swR (m - i) m 0 i d else if j < i then rotF m f (i - j) j (swR (m - i) m 0 j d) else rotF m f i (j - i) (swR (m - i) (m + j - i) 0 i d)
theorem rotF_spec (m lo hi : Nat) : ∀ (f i j : Nat) (d : Array α), i + j ≤ f → 1 ≤ i → 1 ≤ j → i ≤ m → lo ≤ m - i → m + j ≤ hi → hi ≤ d.size →
    PermIn lo hi d (rotF m f i j d) ∧ ∀ x, (rotF m f i j d)[x]! = if m - i ≤ x ∧ x < m - i + j then d[x + i]! else if m - i + j ≤ x ∧ x < m + j then d[x - j]! else d[x]!
  | 0, i, j, d, hf, h1, h2, _, _, _, _ => by omega
  | f + 1, i, j, d, hf, h1, h2, h3, h4, h5, h6 => by
    unfold rotF
    by_cases e : i = j
    · subst e
      rw [if_pos rfl]
      refine ⟨swR_perm _ _ lo hi i 0 d (by omega) (by omega) (by omega) h6, fun x => ?_⟩
      rw [swR_get _ _ i 0 d (by omega) (by omega) x]
      by_cases c1 : m - i ≤ x ∧ x < m - i + i
      · rw [if_pos (by omega), if_pos c1]
        congr 1
        omega
      · rw [if_neg (by omega), if_neg c1]
        by_cases c2 : m - i + i ≤ x ∧ x < m + i
        · rw [if_pos (by omega), if_pos c2]
          congr 1
          omega
        · rw [if_neg (by omega), if_neg c2]
    · rw [if_neg e]
      by_cases g : j < i
      · rw [if_pos g]
        have hp := swR_perm (m - i) m lo hi j 0 d (by omega) (by omega) (by omega) h6
        have hs := swR_size (m - i) m j 0 d
        have hg := swR_get (m - i) m j 0 d (by omega) (by omega)
        generalize swR (m - i) m 0 j d = d1 at hp hs hg
        obtain ⟨r1, r2⟩ := rotF_spec m lo hi f (i - j) j d1 (by omega) (by omega) h2 (by omega) (by omega) h5 (by omega)
        refine ⟨permIn_trans _ _ _ _ _ hp r1, fun x => ?_⟩
        rw [r2 x, hg x, hg (x + (i - j)), hg (x - j)]
        by_cases c1 : m - i ≤ x ∧ x < m - i + j
        · rw [if_pos c1, if_neg (by omega), if_neg (by omega), if_pos (by omega)]
          congr 1
          omega
        · rw [if_neg c1]
          by_cases c2 : m - i + j ≤ x ∧ x < m + j
          · rw [if_pos c2]
            by_cases c3 : x < m - i + j + j
            · rw [if_pos (by omega), if_neg (by omega), if_pos (by omega)]
              congr 1
              omega
            · rw [if_neg (by omega), if_pos (by omega), if_neg (by omega), if_neg (by omega)]
          · rw [if_neg c2, if_neg (by omega), if_neg (by omega), if_neg (by omega), if_neg (by omega)]
      · rw [if_neg g]
        have hp := swR_perm (m - i) (m + j - i) lo hi i 0 d (by omega) (by omega) (by omega) h6
        have hs := swR_size (m - i) (m + j - i) i 0 d
        have hg := swR_get (m - i) (m + j - i) i 0 d (by omega) (by omega)
        generalize swR (m - i) (m + j - i) 0 i d = d1 at hp hs hg
        obtain ⟨r1, r2⟩ := rotF_spec m lo hi f i (j - i) d1 (by omega) h1 (by omega) h3 h4 (by omega) (by omega)
        refine ⟨permIn_trans _ _ _ _ _ hp r1, fun x => ?_⟩
        rw [r2 x, hg x, hg (x + i), hg (x - (j - i))]
        by_cases c1 : m - i ≤ x ∧ x < m - i + j
        · rw [if_pos c1]
          by_cases c3 : x < m - i + (j - i)
          · rw [if_pos (by omega), if_neg (by omega), if_neg (by omega)]
          · rw [if_neg (by omega), if_pos (by omega), if_pos (by omega)]
            congr 1
            omega
        · rw [if_neg c1]
          by_cases c2 : m - i + j ≤ x ∧ x < m + j
          · rw [if_pos c2, if_neg (by omega), if_neg (by omega), if_neg (by omega), if_pos (by omega)]
            congr 1
            omega
          · rw [if_neg c2, if_neg (by omega), if_neg (by omega), if_neg (by omega), if_neg (by omega)]
/-- The binary search that all have: where p ends to hold. -/
def bs (p : Nat → Bool) (i j : Nat) : Nat := if i < j then (if p ((i + j) / 2) = true then bs p ((i + j) / 2 + 1) j else bs p i ((i + j) / 2)) else i
termination_by j - i
theorem bs_stop (p : Nat → Bool) (i j : Nat) (h : ¬ i < j) : bs p i j = i := by rw [bs, if_neg h]
theorem bs_go (p : Nat → Bool) (i j : Nat) (h : i < j) : bs p i j = if p ((i + j) / 2) = true then bs p ((i + j) / 2 + 1) j else bs p i ((i + j) / 2) := by rw [bs, if_pos h]
theorem bs_spec (p : Nat → Bool) : ∀ (n i j : Nat), j - i ≤ n → i ≤ j → i ≤ bs p i j ∧ bs p i j ≤ j ∧ (bs p i j = i ∨ p (bs p i j - 1) = true) ∧ (bs p i j = j ∨ p (bs p i j) = false)
  | 0, i, j, h1, h2 => by
    rw [bs_stop p i j (by omega)]
    exact ⟨Nat.le_refl _, h2, .inl rfl, .inl (by omega)⟩
  | n + 1, i, j, h1, h2 => by
    by_cases h : i < j
    · rw [bs_go p i j h]
      by_cases hp : p ((i + j) / 2) = true
      · rw [if_pos hp]
        obtain ⟨g1, g2, g3, g4⟩ := bs_spec p n ((i + j) / 2 + 1) j (by omega) (by omega)
        refine ⟨by omega, g2, .inr ?_, g4⟩
        rcases g3 with g3 | g3
        · rw [g3, Nat.add_sub_cancel]; exact hp
        · exact g3
      · rw [if_neg hp]
        obtain ⟨g1, g2, g3, g4⟩ := bs_spec p n i ((i + j) / 2) (by omega) (by omega)
        refine ⟨g1, by omega, g3, .inr ?_⟩
        rcases g4 with g4 | g4
        · rw [g4]; simpa using hp
        · exact g4
    · rw [bs_stop p i j h]
      exact ⟨Nat.le_refl _, h2, .inl rfl, .inl (by omega)⟩
/-- An element goes up, past its neighbours, to a place; k rounds. -/
def shU : Nat → Nat → Array α → Array α
  | _, 0, d => d
  | i, k + 1, d => shU (i + 1) k (swp d i (i + 1))
def shD : Nat → Nat → Array α → Array α
  | _, 0, d => d
  | i, k + 1, d => shD (i - 1) k (swp d i (i - 1))
theorem shU_spec (lo hi : Nat) : ∀ (k i : Nat) (d : Array α), lo ≤ i → i + k < hi → hi ≤ d.size → PermIn lo hi d (shU i k d) ∧ ∀ x, (shU i k d)[x]! = if i ≤ x ∧ x < i + k then d[x + 1]! else if x = i + k then d[i]! else d[x]!
  | 0, i, d, _, _, _ => by
    refine ⟨permIn_refl d lo hi, fun x => ?_⟩
    unfold shU
    rw [if_neg (by omega)]
    by_cases h : x = i
    · rw [if_pos (by omega), h]
    · rw [if_neg (by omega)]
  | k + 1, i, d, h1, h2, h3 => by
    unfold shU
    have hsw : ∀ y, (swp d i (i + 1))[y]! = if y = i + 1 then d[i]! else if y = i then d[i + 1]! else d[y]! := fun y => swp_get d (by omega) (by omega) y
    have hp := swp_permIn d lo hi i (i + 1) (by omega) (by omega) (by omega) (by omega) h3
    have hs := size_swp d i (i + 1)
    generalize swp d i (i + 1) = d1 at hsw hp hs
    obtain ⟨r1, r2⟩ := shU_spec lo hi k (i + 1) d1 (by omega) (by omega) (by omega)
    refine ⟨permIn_trans _ _ _ _ _ hp r1, fun x => ?_⟩
    rw [r2 x, hsw x, hsw (x + 1), hsw (i + 1), if_pos rfl]
    by_cases c1 : i ≤ x ∧ x < i + (k + 1)
    · rw [if_pos c1]
      by_cases c2 : x = i
      · rw [if_neg (by omega), if_neg (by omega), if_neg (by omega), if_pos c2, c2]
      · rw [if_pos (by omega), if_neg (by omega), if_neg (by omega)]
    · rw [if_neg c1]
      by_cases c2 : x = i + (k + 1)
      · rw [if_pos c2, if_neg (by omega), if_pos (by omega)]
      · rw [if_neg c2, if_neg (by omega), if_neg (by omega), if_neg (by omega), if_neg (by omega)]
theorem shD_spec (lo hi : Nat) : ∀ (k i : Nat) (d : Array α), lo + k ≤ i → i < hi → hi ≤ d.size → PermIn lo hi d (shD i k d) ∧ ∀ x, (shD i k d)[x]! = if i - k < x ∧ x ≤ i then d[x - 1]! else if x = i - k then d[i]! else d[x]!
  | 0, i, d, _, _, _ => by
    refine ⟨permIn_refl d lo hi, fun x => ?_⟩
    unfold shD
    rw [if_neg (by omega)]
    by_cases h : x = i
    · rw [if_pos (by omega), h]
    · rw [if_neg (by omega)]
  | k + 1, i, d, h1, h2, h3 => by
    unfold shD
    have hsw : ∀ y, (swp d i (i - 1))[y]! = if y = i - 1 then d[i]! else if y = i then d[i - 1]! else d[y]! := fun y => swp_get d (by omega) (by omega) y
    have hp := swp_permIn d lo hi i (i - 1) (by omega) (by omega) (by omega) (by omega) h3
    have hs := size_swp d i (i - 1)
    generalize swp d i (i - 1) = d1 at hsw hp hs
    obtain ⟨r1, r2⟩ := shD_spec lo hi k (i - 1) d1 (by omega) (by omega) (by omega)
    refine ⟨permIn_trans _ _ _ _ _ hp r1, fun x => ?_⟩
    rw [r2 x, hsw x, hsw (x - 1), hsw (i - 1), if_pos rfl]
    by_cases c1 : i - (k + 1) < x ∧ x ≤ i
    · rw [if_pos c1]
      by_cases c2 : x = i
      · rw [if_neg (by omega), if_neg (by omega), if_neg (by omega), if_pos c2, c2]
      · rw [if_pos (by omega), if_neg (by omega), if_neg (by omega)]
    · rw [if_neg c1]
      by_cases c2 : x = i - (k + 1)
      · rw [if_pos c2, if_neg (by omega), if_pos (by omega)]
      · rw [if_neg c2, if_neg (by omega), if_neg (by omega), if_neg (by omega), if_neg (by omega)]
end
end Go.Proofs.YtojeclfcgnamoaaDoor

namespace Go.Proofs.YtojeclfcgnamoaaDoor
open Go.Sort
theorem SWO.le {α : Type} {lt : α → α → Bool} (h : SWO lt) {x y z : α} (h1 : lt y x = false) (h2 : lt z y = false) : lt z x = false := h.ntrans z y x h2 h1
theorem SWO.asy {α : Type} {lt : α → α → Bool} (h : SWO lt) {x y : α} (hxy : lt x y = true) : lt y x = false := h.asymmA hxy
section
variable {α : Type} [Inhabited α]

theorem sortedIn_congr {lt : α → α → Bool} {a b : Nat} {d d' : Array α} (h : SortedIn lt a b d) (he : ∀ x, a ≤ x → x < b → d'[x]! = d[x]!) : SortedIn lt a b d' := fun i j h1 h2 h3 => by
  rw [he i h1 (by omega), he j (by omega) h3]
  exact h i j h1 h2 h3
theorem permIn_same {a b : Nat} {d d' : Array α} (h : PermIn a b d d') : d'.size = d.size := h.1
/-- symMerge. -/
def symF (lt : α → α → Bool) : Nat → Nat → Nat → Nat → Array α → Array α
  | 0, _, _, _, d => d
  | f + 1, a, m, b, d =>
    if m - a = 1 then shU a (bs (fun h => lt d[h]! d[a]!) m b - 1 - a) d
    else if b - m = 1 then shD m (m - bs (fun h => !lt d[m]! d[h]!) a m) d
    else
      let s := if (a + b) / 2 < m then bs (fun c => !lt d[(a + b) / 2 + m - 1 - c]! d[c]!) ((a + b) / 2 + m - b) ((a + b) / 2) else bs (fun c => !lt d[(a + b) / 2 + m - 1 - c]! d[c]!) a m
      let e := (a + b) / 2 + m - s
      let d1 := if s < m ∧ m < e then rotF m (e - s) (m - s) (e - m) d else d
      let d2 := if a < s ∧ s < (a + b) / 2 then symF lt f a s ((a + b) / 2) d1 else d1
      if (a + b) / 2 < e ∧ e < b then symF lt f ((a + b) / 2) e b d2 else d2
theorem sorted_le {lt : α → α → Bool} (hS : SWO lt) {a b : Nat} {d : Array α} (h : SortedIn lt a b d) {x y : Nat} (h1 : a ≤ x) (h2 : x ≤ y) (h3 : y < b) : lt d[y]! d[x]! = false := by
  by_cases e : x = y
  · subst e; exact hS.irrefl _
  · exact h x y h1 (by omega) h3
theorem sym_one {lt : α → α → Bool} (hS : SWO lt) {a b i : Nat} {d r : Array α} (hB : SortedIn lt (a + 1) b d) (hi1 : a + 1 ≤ i) (hi2 : i ≤ b)
    (h1 : i = a + 1 ∨ lt d[i - 1]! d[a]! = true) (h2 : i = b ∨ lt d[i]! d[a]! = false) (hr : ∀ x, r[x]! = if a ≤ x ∧ x < a + (i - 1 - a) then d[x + 1]! else if x = a + (i - 1 - a) then d[a]! else d[x]!) : SortedIn lt a b r := by
  intro x y hx hxy hy
  have ex := hr x
  have ey := hr y
  by_cases c1 : x < i - 1
  · rw [if_pos (by omega)] at ex
    by_cases c2 : y < i - 1
    · rw [if_pos (by omega)] at ey
      rw [ex, ey]
      exact hB _ _ (by omega) (by omega) (by omega)
    · rw [if_neg (by omega)] at ey
      by_cases c3 : y = i - 1
      · rw [if_pos (by omega)] at ey
        rw [ex, ey]
        rcases h1 with h1 | h1
        · omega
        · cases hh : lt d[a]! d[x + 1]! with
          | false => rfl
          | true =>
            have h3 := hS.trans _ _ _ h1 hh
            rw [sorted_le hS hB (x := x + 1) (y := i - 1) (by omega) (by omega) (by omega)] at h3
            cases h3
      · rw [if_neg (by omega)] at ey
        rw [ex, ey]
        exact hB _ _ (by omega) (by omega) hy
  · rw [if_neg (by omega)] at ex ey
    rw [if_neg (by omega)] at ey
    by_cases c2 : x = i - 1
    · rw [if_pos (by omega)] at ex
      rw [ex, ey]
      rcases h2 with h2 | h2
      · omega
      · exact SWO.le hS h2 (sorted_le hS hB (x := i) (y := y) (by omega) (by omega) hy)
    · rw [if_neg (by omega)] at ex
      rw [ex, ey]
      exact hB _ _ (by omega) hxy hy
theorem sym_last {lt : α → α → Bool} (hS : SWO lt) {a m i : Nat} {d r : Array α} (hA : SortedIn lt a m d) (hi1 : a ≤ i) (hi2 : i ≤ m)
    (h1 : i = a ∨ lt d[m]! d[i - 1]! = false) (h2 : i = m ∨ lt d[m]! d[i]! = true) (hr : ∀ x, r[x]! = if m - (m - i) < x ∧ x ≤ m then d[x - 1]! else if x = m - (m - i) then d[m]! else d[x]!) : SortedIn lt a (m + 1) r := by
  intro x y hx hxy hy
  have ex := hr x
  have ey := hr y
  by_cases c1 : i < x
  · rw [if_pos (by omega)] at ex ey
    rw [ex, ey]
    exact hA _ _ (by omega) (by omega) (by omega)
  · rw [if_neg (by omega)] at ex
    by_cases c2 : x = i
    · rw [if_pos (by omega)] at ex ey
      rw [ex, ey]
      rcases h2 with h2 | h2
      · omega
      · cases hh : lt d[y - 1]! d[m]! with
        | false => rfl
        | true =>
          have h3 := hS.trans _ _ _ hh h2
          rw [sorted_le hS hA (x := i) (y := y - 1) (by omega) (by omega) (by omega)] at h3
          cases h3
    · rw [if_neg (by omega)] at ex
      by_cases c3 : y = i
      · rw [if_neg (by omega), if_pos (by omega)] at ey
        rw [ex, ey]
        rcases h1 with h1 | h1
        · omega
        · exact SWO.le hS (sorted_le hS hA (x := x) (y := i - 1) (by omega) (by omega) (by omega)) h1
      · by_cases c4 : i < y
        · rw [if_pos (by omega)] at ey
          rw [ex, ey]
          exact hA _ _ (by omega) (by omega) (by omega)
        · rw [if_neg (by omega), if_neg (by omega)] at ey
          rw [ex, ey]
          exact hA _ _ (by omega) hxy (by omega)
/-- Two halves, each permuted, the left one's no more than the right one's: the same behind. -/
theorem cross_perm {lt : α → α → Bool} {a mid b : Nat} {d1 d2 d3 : Array α} (hb : b ≤ d1.size) (_ham : a ≤ mid) (hmb : mid ≤ b) (h12 : PermIn a mid d1 d2) (h23 : PermIn mid b d2 d3)
    (hc : ∀ x y, a ≤ x → x < mid → mid ≤ y → y < b → lt d1[y]! d1[x]! = false) (hl : SortedIn lt a mid d2) (hr : SortedIn lt mid b d3) : SortedIn lt a b d3 := by
  have e1 : ∀ x, x < mid → d3[x]! = d2[x]! := fun x hx => h23.2.1 x (.inl hx)
  have e2 : ∀ y, mid ≤ y → d2[y]! = d1[y]! := fun y hy => h12.2.1 y (.inr hy)
  have k1 : ∀ x, a ≤ x → x < mid → ∀ y, mid ≤ y → y < b → lt d1[y]! d2[x]! = false :=
    permIn_all d1 d2 a mid (fun v => ∀ y, mid ≤ y → y < b → lt d1[y]! v = false) (by omega) h12 (fun x h1 h2 y h3 h4 => hc x y h1 h2 h3 h4)
  have k2 : ∀ y, mid ≤ y → y < b → ∀ x, a ≤ x → x < mid → lt d3[y]! d2[x]! = false :=
    permIn_all d2 d3 mid b (fun v => ∀ x, a ≤ x → x < mid → lt v d2[x]! = false) (by rw [h12.1]; exact hb) h23 (fun y h1 h2 x h3 h4 => by rw [e2 y h1]; exact k1 x h3 h4 y h1 h2)
  intro x y hx hxy hy
  by_cases c1 : y < mid
  · rw [e1 x (by omega), e1 y c1]
    exact hl x y hx hxy c1
  · by_cases c2 : mid ≤ x
    · exact hr x y c2 hxy hy
    · rw [e1 x (by omega)]
      exact k2 y (by omega) hy x hx (by omega)
theorem symF_spec {lt : α → α → Bool} (hS : SWO lt) : ∀ (f a m b : Nat) (d : Array α), b - a ≤ f → a < m → m < b → b ≤ d.size → SortedIn lt a m d → SortedIn lt m b d →
    PermIn a b d (symF lt f a m b d) ∧ SortedIn lt a b (symF lt f a m b d)
  | 0, a, m, b, d, hf, h1, h2, _, _, _ => by omega
  | f + 1, a, m, b, d, hf, h1, h2, h3, hA, hB => by
    unfold symF
    by_cases c1 : m - a = 1
    · rw [if_pos c1]
      obtain rfl : m = a + 1 := by omega
      obtain ⟨g1, g2, g3, g4⟩ := bs_spec (fun h => lt d[h]! d[a]!) (b - (a + 1)) (a + 1) b (Nat.le_refl _) (by omega)
      generalize bs (fun h => lt d[h]! d[a]!) (a + 1) b = i at g1 g2 g3 g4
      obtain ⟨p1, p2⟩ := shU_spec a b (i - 1 - a) a d (Nat.le_refl _) (by omega) h3
      exact ⟨p1, sym_one hS hB g1 g2 g3 g4 p2⟩
    · rw [if_neg c1]
      by_cases c2 : b - m = 1
      · rw [if_pos c2]
        obtain rfl : b = m + 1 := by omega
        obtain ⟨g1, g2, g3, g4⟩ := bs_spec (fun h => !lt d[m]! d[h]!) (m - a) a m (Nat.le_refl _) (by omega)
        generalize bs (fun h => !lt d[m]! d[h]!) a m = i at g1 g2 g3 g4
        obtain ⟨p1, p2⟩ := shD_spec a (m + 1) (m - i) m d (by omega) (by omega) h3
        exact ⟨p1, sym_last hS hA g1 g2 (by simpa using g3) (by simpa using g4) p2⟩
      · rw [if_neg c2]
        dsimp only
        obtain ⟨mid, hmid⟩ : ∃ x, (a + b) / 2 = x := ⟨_, rfl⟩
        rw [hmid]
        have hm1 : a < mid := by omega
        have hm2 : mid < b := by omega
        have key : ∃ s, (if mid < m then bs (fun c => !lt d[mid + m - 1 - c]! d[c]!) (mid + m - b) mid else bs (fun c => !lt d[mid + m - 1 - c]! d[c]!) a m) = s ∧ a ≤ s ∧ s ≤ m ∧ s ≤ mid ∧ m ≤ mid + m - s ∧ mid ≤ mid + m - s ∧ mid + m - s ≤ b ∧
            (s = a ∨ mid + m - s = b ∨ lt d[mid + m - s]! d[s - 1]! = false) ∧ (s = m ∨ mid + m - s = m ∨ lt d[mid + m - s - 1]! d[s]! = true) := by
          by_cases g : mid < m
          · rw [if_pos g]
            obtain ⟨q1, q2, q3, q4⟩ := bs_spec (fun c => !lt d[mid + m - 1 - c]! d[c]!) (mid - (mid + m - b)) (mid + m - b) mid (Nat.le_refl _) (by omega)
            generalize bs (fun c => !lt d[mid + m - 1 - c]! d[c]!) (mid + m - b) mid = s at q1 q2 q3 q4
            refine ⟨s, rfl, by omega, by omega, by omega, by omega, by omega, by omega, ?_, ?_⟩
            · rcases q3 with q3 | q3
              · exact .inr (.inl (by omega))
              · by_cases hs0 : s = a
                · exact .inl hs0
                · refine .inr (.inr ?_)
                  have : mid + m - 1 - (s - 1) = mid + m - s := by omega
                  rw [this] at q3
                  simpa using q3
            · rcases q4 with q4 | q4
              · exact .inr (.inl (by omega))
              · refine .inr (.inr ?_)
                have : mid + m - 1 - s = mid + m - s - 1 := by omega
                rw [this] at q4
                simpa using q4
          · rw [if_neg g]
            obtain ⟨q1, q2, q3, q4⟩ := bs_spec (fun c => !lt d[mid + m - 1 - c]! d[c]!) (m - a) a m (Nat.le_refl _) (by omega)
            generalize bs (fun c => !lt d[mid + m - 1 - c]! d[c]!) a m = s at q1 q2 q3 q4
            refine ⟨s, rfl, by omega, by omega, by omega, by omega, by omega, by omega, ?_, ?_⟩
            · rcases q3 with q3 | q3
              · exact .inl q3
              · by_cases hs0 : s = a
                · exact .inl hs0
                · refine .inr (.inr ?_)
                  have : mid + m - 1 - (s - 1) = mid + m - s := by omega
                  rw [this] at q3
                  simpa using q3
            · rcases q4 with q4 | q4
              · exact .inl q4
              · refine .inr (.inr ?_)
                have : mid + m - 1 - s = mid + m - s - 1 := by omega
                rw [this] at q4
                simpa using q4
        obtain ⟨s, hs, s1, s2, s3, s4, s5, s6, s7, s8⟩ := key
        rw [hs]
        obtain ⟨e, he⟩ : ∃ e, mid + m - s = e := ⟨_, rfl⟩
        rw [he] at s4 s5 s6 s7 s8 ⊢
        -- the rotation
        have rot : ∃ d1, (if s < m ∧ m < e then rotF m (e - s) (m - s) (e - m) d else d) = d1 ∧ PermIn a b d d1 ∧ ∀ x, d1[x]! = if s ≤ x ∧ x < mid then d[x + (m - s)]! else if mid ≤ x ∧ x < e then d[x - (e - m)]! else d[x]! := by
          by_cases g : s < m ∧ m < e
          · rw [if_pos g]
            obtain ⟨r1, r2⟩ := rotF_spec m a b (e - s) (m - s) (e - m) d (by omega) (by omega) (by omega) (by omega) (by omega) (by omega) h3
            refine ⟨_, rfl, r1, fun x => ?_⟩
            rw [r2 x, show m - (m - s) = s from by omega, show s + (e - m) = mid from by omega, show m + (e - m) = e from by omega]
          · rw [if_neg g]
            refine ⟨_, rfl, permIn_refl d a b, fun x => ?_⟩
            by_cases q : s = m
            · by_cases c : s ≤ x ∧ x < mid
              · rw [if_pos c]; congr 1; omega
              · rw [if_neg c, if_neg (by omega)]
            · by_cases c : mid ≤ x ∧ x < e
              · rw [if_neg (by omega), if_pos c]; congr 1; omega
              · rw [if_neg (by omega), if_neg c]
        obtain ⟨d1, hd1, hp1, hg1⟩ := rot
        rw [hd1]
        have hsz1 := hp1.1
        have runA : SortedIn lt a s d1 := sortedIn_congr (fun i j u1 u2 u3 => hA i j u1 u2 (by omega)) fun x u1 u2 => by rw [hg1 x, if_neg (by omega), if_neg (by omega)]
        have runB : SortedIn lt s mid d1 := fun i j u1 u2 u3 => by
          rw [hg1 i, hg1 j, if_pos (by omega), if_pos (by omega)]
          exact hB _ _ (by omega) (by omega) (by omega)
        have runC : SortedIn lt mid e d1 := fun i j u1 u2 u3 => by
          rw [hg1 i, hg1 j, if_neg (by omega), if_pos (by omega), if_neg (by omega), if_pos (by omega)]
          exact hA _ _ (by omega) (by omega) (by omega)
        have runD : SortedIn lt e b d1 := sortedIn_congr (fun i j u1 u2 u3 => hB i j (by omega) u2 u3) fun x u1 u2 => by rw [hg1 x, if_neg (by omega), if_neg (by omega)]
        have cross : ∀ x y, a ≤ x → x < mid → mid ≤ y → y < b → lt d1[y]! d1[x]! = false := by
          intro x y x1 x2 y1 y2
          have ex := hg1 x
          have ey := hg1 y
          rw [if_neg (show ¬ (s ≤ y ∧ y < mid) by omega)] at ey
          by_cases cx : s ≤ x
          · rw [if_pos (by omega)] at ex
            by_cases cy : y < e
            · rw [if_pos (by omega)] at ey
              rw [ex, ey]
              rcases s8 with s8 | s8 | s8
              · omega
              · omega
              · have u1 := sorted_le hS hB (x := x + (m - s)) (y := e - 1) (by omega) (by omega) (by omega)
                have u2 := sorted_le hS hA (x := s) (y := y - (e - m)) (by omega) (by omega) (by omega)
                exact SWO.le hS u1 (SWO.le hS (SWO.asy hS s8) u2)
            · rw [if_neg (by omega)] at ey
              rw [ex, ey]
              exact hB _ _ (by omega) (by omega) y2
          · rw [if_neg (by omega), if_neg (by omega)] at ex
            by_cases cy : y < e
            · rw [if_pos (by omega)] at ey
              rw [ex, ey]
              exact hA _ _ x1 (by omega) (by omega)
            · rw [if_neg (by omega)] at ey
              rw [ex, ey]
              rcases s7 with s7 | s7 | s7
              · omega
              · omega
              · have u1 := sorted_le hS hA (x := x) (y := s - 1) (by omega) (by omega) (by omega)
                have u2 := sorted_le hS hB (x := e) (y := y) (by omega) (by omega) y2
                exact SWO.le hS (SWO.le hS u1 s7) u2
        have left : ∃ d2, (if a < s ∧ s < mid then symF lt f a s mid d1 else d1) = d2 ∧ PermIn a mid d1 d2 ∧ SortedIn lt a mid d2 := by
          by_cases g : a < s ∧ s < mid
          · rw [if_pos g]
            obtain ⟨u1, u2⟩ := symF_spec hS f a s mid d1 (by omega) g.1 g.2 (by omega) runA runB
            exact ⟨_, rfl, u1, u2⟩
          · rw [if_neg g]
            refine ⟨_, rfl, permIn_refl d1 a mid, ?_⟩
            by_cases q : s = a
            · rw [q] at runB; exact runB
            · obtain rfl : s = mid := by omega
              exact runA
        obtain ⟨d2, hd2, hp2, hs2⟩ := left
        rw [hd2]
        have hsz2 := hp2.1
        have keep2 : ∀ y, mid ≤ y → d2[y]! = d1[y]! := fun y hy => hp2.2.1 y (.inr hy)
        have runC2 : SortedIn lt mid e d2 := sortedIn_congr runC fun x u1 _ => keep2 x u1
        have runD2 : SortedIn lt e b d2 := sortedIn_congr runD fun x u1 _ => keep2 x (by omega)
        have right : ∃ d3, (if mid < e ∧ e < b then symF lt f mid e b d2 else d2) = d3 ∧ PermIn mid b d2 d3 ∧ SortedIn lt mid b d3 := by
          by_cases g : mid < e ∧ e < b
          · rw [if_pos g]
            obtain ⟨u1, u2⟩ := symF_spec hS f mid e b d2 (by omega) g.1 g.2 (by omega) runC2 runD2
            exact ⟨_, rfl, u1, u2⟩
          · rw [if_neg g]
            refine ⟨_, rfl, permIn_refl d2 mid b, ?_⟩
            by_cases q : e = b
            · rw [q] at runC2; exact runC2
            · obtain rfl : e = mid := by omega
              exact runD2
        obtain ⟨d3, hd3, hp3, hs3⟩ := right
        rw [hd3]
        refine ⟨permIn_trans _ _ _ _ _ hp1 (permIn_trans _ _ _ _ _ (permIn_mono d1 d2 a mid a b (Nat.le_refl _) (by omega) (by omega) hp2) (permIn_mono d2 d3 mid b a b (by omega) (Nat.le_refl _) (by omega) hp3)), ?_⟩
        exact cross_perm (by omega) (by omega) (by omega) hp2 hp3 cross hs2 hs3
/-- The blocks of twenty, each sorted by itself. -/
def insB (lt : α → α → Bool) (n : Nat) : Nat → Nat → Array α → Array α
  | 0, a, d => insertionSort lt d a n
  | f + 1, a, d => if a + 20 ≤ n then insB lt n f (a + 20) (insertionSort lt d a (a + 20)) else insertionSort lt d a n
/-- Two blocks at a time. -/
def mrgP (lt : α → α → Bool) (z n : Nat) : Nat → Nat → Array α → Array α
  | 0, _, d => d
  | f + 1, a, d => if a + 2 * z ≤ n then mrgP lt z n f (a + 2 * z) (symF lt (2 * z) a (a + z) (a + 2 * z) d) else if a + z < n then symF lt (n - a) a (a + z) n d else d
def stF (lt : α → α → Bool) (n : Nat) : Nat → Nat → Array α → Array α
  | 0, _, d => d
  | f + 1, z, d => if z < n then stF lt n f (z * 2) (mrgP lt z n (n + 1) 0 d) else d
/-- The stable sort. -/
def stableF (lt : α → α → Bool) (n : Nat) (d : Array α) : Array α := stF lt n (n + 1) 20 (insB lt n n 0 d)
/-- From block q on each block of z is sorted. -/
def Runs (lt : α → α → Bool) (z q n : Nat) (d : Array α) : Prop := ∀ j, q ≤ j → SortedIn lt (j * z) (min ((j + 1) * z) n) d
theorem insB_spec {lt : α → α → Bool} (hS : SWO lt) (n : Nat) : ∀ (f q : Nat) (d : Array α), n ≤ q * 20 + f → q * 20 ≤ n → n ≤ d.size → (∀ j, j < q → SortedIn lt (j * 20) ((j + 1) * 20) d) →
    PermIn 0 n d (insB lt n f (q * 20) d) ∧ Runs lt 20 0 n (insB lt n f (q * 20) d)
  | 0, q, d, hf, hq, hn, hd => by
    unfold insB
    obtain ⟨h1, h2⟩ := insertionSort_holds hS d (q * 20) n hq hn
    refine ⟨permIn_mono _ _ _ _ 0 n (by omega) (Nat.le_refl _) hn h1, fun j _ => ?_⟩
    by_cases c : j < q
    · refine sortedIn_congr (fun u v a1 a2 a3 => hd j c u v a1 a2 (by omega)) fun x a1 a2 => h1.2.1 x (.inl (by omega))
    · intro u v a1 a2 a3
      exact h2 u v (by omega) a2 (by omega)
  | f + 1, q, d, hf, hq, hn, hd => by
    unfold insB
    by_cases c : q * 20 + 20 ≤ n
    · rw [if_pos c]
      obtain ⟨h1, h2⟩ := insertionSort_holds hS d (q * 20) (q * 20 + 20) (by omega) (by omega)
      have hsz := h1.1
      generalize insertionSort lt d (q * 20) (q * 20 + 20) = d1 at h1 h2 hsz
      obtain ⟨r1, r2⟩ := insB_spec hS n f (q + 1) d1 (by omega) (by omega) (by omega) fun j hj => by
        by_cases e : j = q
        · subst e
          intro u v a1 a2 a3
          exact h2 u v (by omega) a2 (by omega)
        · exact sortedIn_congr (hd j (by omega)) fun x a1 a2 => h1.2.1 x (.inl (by omega))
      rw [show (q + 1) * 20 = q * 20 + 20 from by omega] at r1 r2
      exact ⟨permIn_trans _ _ _ _ _ (permIn_mono _ _ _ _ 0 n (by omega) c hn h1) r1, r2⟩
    · rw [if_neg c]
      obtain ⟨h1, h2⟩ := insertionSort_holds hS d (q * 20) n hq hn
      refine ⟨permIn_mono _ _ _ _ 0 n (by omega) (Nat.le_refl _) hn h1, fun j _ => ?_⟩
      by_cases c : j < q
      · refine sortedIn_congr (fun u v a1 a2 a3 => hd j c u v a1 a2 (by omega)) fun x a1 a2 => h1.2.1 x (.inl (by omega))
      · intro u v a1 a2 a3
        exact h2 u v (by omega) a2 (by omega)
theorem mul_lt_step {j q z : Nat} (h : j < q) : (j + 1) * z ≤ q * z := Nat.mul_le_mul_right z h
theorem mrgP_spec {lt : α → α → Bool} (hS : SWO lt) (z n : Nat) (hz : 1 ≤ z) : ∀ (f q : Nat) (d : Array α), n < q * (2 * z) + f → n ≤ d.size → (∀ j, j < q → SortedIn lt (j * (2 * z)) (min ((j + 1) * (2 * z)) n) d) → Runs lt z (2 * q) n d →
    PermIn 0 n d (mrgP lt z n f (q * (2 * z)) d) ∧ Runs lt (2 * z) 0 n (mrgP lt z n f (q * (2 * z)) d)
  | 0, q, d, hf, hn, hd, hr => by
    unfold mrgP
    refine ⟨permIn_refl d 0 n, fun j _ => ?_⟩
    by_cases c : j < q
    · exact hd j c
    · intro u v a1 a2 a3
      have : q * (2 * z) ≤ j * (2 * z) := Nat.mul_le_mul_right _ (by omega)
      omega
  | f + 1, q, d, hf, hn, hd, hr => by
    have e1 : (2 * q) * z = q * (2 * z) := by rw [Nat.mul_comm 2 q, Nat.mul_assoc]
    have e2 : (2 * q + 1) * z = q * (2 * z) + z := by rw [Nat.succ_mul, e1]
    have e3 : (2 * q + 1 + 1) * z = q * (2 * z) + 2 * z := by rw [Nat.succ_mul, e2]; omega
    have e4 : (q + 1) * (2 * z) = q * (2 * z) + 2 * z := Nat.succ_mul _ _
    have run1 := hr (2 * q) (Nat.le_refl _)
    have run2 := hr (2 * q + 1) (by omega)
    rw [e1, e2] at run1
    rw [e2, e3] at run2
    unfold mrgP
    obtain ⟨a, ha⟩ : ∃ a, q * (2 * z) = a := ⟨_, rfl⟩
    rw [ha] at run1 run2 e4 hf ⊢
    by_cases c : a + 2 * z ≤ n
    · rw [if_pos c]
      have ra : SortedIn lt a (a + z) d := fun u v a1 a2 a3 => run1 u v a1 a2 (by omega)
      have rb : SortedIn lt (a + z) (a + 2 * z) d := fun u v a1 a2 a3 => run2 u v a1 a2 (by omega)
      obtain ⟨h1, h2⟩ := symF_spec hS (2 * z) a (a + z) (a + 2 * z) d (by omega) (by omega) (by omega) (by omega) ra rb
      have hsz := h1.1
      generalize symF lt (2 * z) a (a + z) (a + 2 * z) d = d1 at h1 h2 hsz
      obtain ⟨r1, r2⟩ := mrgP_spec hS z n hz f (q + 1) d1 (by rw [e4]; omega) (by omega) (fun j hj => by
        by_cases e : j = q
        · subst e
          rw [ha, e4]
          intro u v a1 a2 a3
          exact h2 u v a1 a2 (by omega)
        · have hle : (j + 1) * (2 * z) ≤ q * (2 * z) := mul_lt_step (by omega)
          refine sortedIn_congr (hd j (by omega)) fun x a1 a2 => h1.2.1 x (.inl (by omega))) (fun j hj => by
        refine sortedIn_congr (hr j (by omega)) fun x a1 a2 => h1.2.1 x (.inr ?_)
        have hle : (2 * q + 1 + 1) * z ≤ j * z := Nat.mul_le_mul_right z (by omega)
        rw [e3, ha] at hle
        omega)
      rw [e4] at r1 r2
      exact ⟨permIn_trans _ _ _ _ _ (permIn_mono _ _ _ _ 0 n (by omega) c hn h1) r1, r2⟩
    · rw [if_neg c]
      have far : ∀ j, q < j → n ≤ j * (2 * z) := fun j hj => by
        have : (q + 1) * (2 * z) ≤ j * (2 * z) := Nat.mul_le_mul_right _ hj
        rw [e4] at this
        omega
      by_cases c2 : a + z < n
      · rw [if_pos c2]
        have ra : SortedIn lt a (a + z) d := fun u v a1 a2 a3 => run1 u v a1 a2 (by omega)
        have rb : SortedIn lt (a + z) n d := fun u v a1 a2 a3 => run2 u v a1 a2 (by omega)
        obtain ⟨h1, h2⟩ := symF_spec hS (n - a) a (a + z) n d (by omega) (by omega) c2 hn ra rb
        refine ⟨permIn_mono _ _ _ _ 0 n (by omega) (Nat.le_refl _) hn h1, fun j _ => ?_⟩
        by_cases c3 : j < q
        · have hle : (j + 1) * (2 * z) ≤ q * (2 * z) := mul_lt_step c3
          refine sortedIn_congr (hd j c3) fun x a1 a2 => h1.2.1 x (.inl (by omega))
        · by_cases c4 : j = q
          · subst c4
            rw [ha]
            intro u v a1 a2 a3
            exact h2 u v a1 a2 (by omega)
          · have := far j (by omega)
            intro u v a1 a2 a3
            omega
      · rw [if_neg c2]
        refine ⟨permIn_refl d 0 n, fun j _ => ?_⟩
        by_cases c3 : j < q
        · exact hd j c3
        · by_cases c4 : j = q
          · subst c4
            rw [ha]
            intro u v a1 a2 a3
            exact run1 u v a1 a2 (by omega)
          · have := far j (by omega)
            intro u v a1 a2 a3
            omega
theorem stF_spec {lt : α → α → Bool} (hS : SWO lt) (n : Nat) : ∀ (f z : Nat) (d : Array α), 1 ≤ z → n ≤ z + f → n ≤ d.size → Runs lt z 0 n d → PermIn 0 n d (stF lt n f z d) ∧ SortedIn lt 0 n (stF lt n f z d)
  | 0, z, d, hz, hf, hn, hr => by
    unfold stF
    refine ⟨permIn_refl d 0 n, fun u v a1 a2 a3 => ?_⟩
    have := hr 0 (Nat.le_refl _)
    rw [Nat.zero_mul, Nat.zero_add, Nat.one_mul] at this
    exact this u v a1 a2 (by omega)
  | f + 1, z, d, hz, hf, hn, hr => by
    unfold stF
    by_cases c : z < n
    · rw [if_pos c]
      obtain ⟨h1, h2⟩ := mrgP_spec hS z n hz (n + 1) 0 d (by omega) hn (fun j hj => by omega) hr
      rw [Nat.zero_mul] at h1 h2
      have hsz := h1.1
      generalize mrgP lt z n (n + 1) 0 d = d1 at h1 h2 hsz
      obtain ⟨r1, r2⟩ := stF_spec hS n f (z * 2) d1 (by omega) (by omega) (by omega) (by rw [Nat.mul_comm]; exact h2)
      exact ⟨permIn_trans _ _ _ _ _ h1 r1, r2⟩
    · rw [if_neg c]
      refine ⟨permIn_refl d 0 n, fun u v a1 a2 a3 => ?_⟩
      have := hr 0 (Nat.le_refl _)
      rw [Nat.zero_mul, Nat.zero_add, Nat.one_mul] at this
      exact this u v a1 a2 (by omega)
/-- The stable sort sorts. -/
theorem stableF_spec {lt : α → α → Bool} (hS : SWO lt) (d : Array α) : PermIn 0 d.size d (stableF lt d.size d) ∧ SortedIn lt 0 d.size (stableF lt d.size d) := by
  unfold stableF
  obtain ⟨h1, h2⟩ := insB_spec hS d.size d.size 0 d (by omega) (by omega) (Nat.le_refl _) (fun j hj => by omega)
  rw [Nat.zero_mul] at h1 h2
  have hsz := h1.1
  generalize insB lt d.size d.size 0 d = d1 at h1 h2 hsz
  obtain ⟨r1, r2⟩ := stF_spec hS d.size (d.size + 1) 20 d1 (by omega) (by omega) (by omega) h2
  exact ⟨permIn_trans _ _ _ _ _ h1 r1, r2⟩
end
end Go.Proofs.YtojeclfcgnamoaaDoor

namespace Go.Proofs.YtojeclfcgnamoaaDoor
open Go.Sort

theorem bytes_inj {a b : ByteArray} (h : a.data.toList = b.data.toList) : a = b := ByteArray.ext (Array.toList_inj.1 h)
theorem str_three (a b : List UInt8) : a < b ∨ a = b ∨ b < a := by
  by_cases h1 : a < b
  · exact .inl h1
  · by_cases h2 : b < a
    · exact .inr (.inr h2)
    · exact .inr (.inl (List.le_antisymm (List.not_lt.1 h2) (List.not_lt.1 h1)))
theorem ltA_iff (x y : Atr) : ltA x y = true ↔ x.1.data.toList < y.1.data.toList ∨ (x.1.data.toList = y.1.data.toList ∧ x.2.1.data.toList < y.2.1.data.toList) := by
  unfold ltA ltB6
  simp only [Bool.or_eq_true, Bool.and_eq_true, decide_eq_true_eq]
  constructor
  · rintro (h | ⟨h1, h2⟩)
    · exact .inl h
    · exact .inr ⟨by rw [h1], h2⟩
  · rintro (h | ⟨h1, h2⟩)
    · exact .inl h
    · exact .inr ⟨bytes_inj h1, h2⟩
theorem ltA_not (x y : Atr) : ltA x y = false ↔ y.1.data.toList < x.1.data.toList ∨ (x.1.data.toList = y.1.data.toList ∧ (y.2.1.data.toList < x.2.1.data.toList ∨ y.2.1.data.toList = x.2.1.data.toList)) := by
  have h := ltA_iff x y
  rw [← Bool.not_eq_true, h]
  rcases str_three x.1.data.toList y.1.data.toList with h1 | h1 | h1
  · constructor
    · intro h2; exact absurd (.inl h1) h2
    · rintro (h2 | ⟨h2, _⟩)
      · exact absurd (List.lt_trans h1 h2) (List.lt_irrefl _)
      · rw [h2] at h1; exact absurd h1 (List.lt_irrefl _)
  · constructor
    · intro h2
      rcases str_three x.2.1.data.toList y.2.1.data.toList with h3 | h3 | h3
      · exact absurd (.inr ⟨h1, h3⟩) h2
      · exact .inr ⟨h1, .inr h3.symm⟩
      · exact .inr ⟨h1, .inl h3⟩
    · rintro (h2 | ⟨_, h2⟩) (h3 | ⟨_, h3⟩)
      · exact absurd (List.lt_trans h2 h3) (List.lt_irrefl _)
      · rw [h1] at h2; exact absurd h2 (List.lt_irrefl _)
      · rw [h1] at h3; exact absurd h3 (List.lt_irrefl _)
      · rcases h2 with h2 | h2
        · exact absurd (List.lt_trans h2 h3) (List.lt_irrefl _)
        · rw [h2] at h3; exact absurd h3 (List.lt_irrefl _)
  · constructor
    · intro _; exact .inl h1
    · rintro _ (h3 | ⟨h3, _⟩)
      · exact absurd (List.lt_trans h1 h3) (List.lt_irrefl _)
      · rw [h3] at h1; exact absurd h1 (List.lt_irrefl _)
theorem swo_ltA : SWO ltA where
  irrefl x := by rw [ltA_not]; exact .inr ⟨rfl, .inr rfl⟩
  trans x y z h1 h2 := by
    rw [ltA_iff] at *
    rcases h1 with h1 | ⟨h1, g1⟩
    · rcases h2 with h2 | ⟨h2, _⟩
      · exact .inl (List.lt_trans h1 h2)
      · exact .inl (by rw [← h2]; exact h1)
    · rcases h2 with h2 | ⟨h2, g2⟩
      · exact .inl (by rw [h1]; exact h2)
      · exact .inr ⟨h1.trans h2, List.lt_trans g1 g2⟩
  ntrans x y z h1 h2 := by
    rw [ltA_not] at *
    rcases h1 with h1 | ⟨h1, g1⟩
    · rcases h2 with h2 | ⟨h2, _⟩
      · exact .inl (List.lt_trans h2 h1)
      · exact .inl (by rw [← h2]; exact h1)
    · rcases h2 with h2 | ⟨h2, g2⟩
      · exact .inl (by rw [h1]; exact h2)
      · refine .inr ⟨h1.trans h2, ?_⟩
        rcases g1 with g1 | g1
        · rcases g2 with g2 | g2
          · exact .inl (List.lt_trans g2 g1)
          · exact .inl (by rw [g2]; exact g1)
        · rcases g2 with g2 | g2
          · exact .inl (by rw [← g1]; exact g2)
          · exact .inr (g2.trans g1)
theorem ltA_eq {x y : Atr} (h1 : ltA x y = false) (h2 : ltA y x = false) : nmA x = nmA y := by
  rw [ltA_not] at h1 h2
  have hsp : x.1.data.toList = y.1.data.toList := by
    rcases h1 with h1 | ⟨h1, _⟩
    · rcases h2 with h2 | ⟨h2, _⟩
      · exact absurd (List.lt_trans h1 h2) (List.lt_irrefl _)
      · exact h2.symm
    · exact h1
  have hlo : x.2.1.data.toList = y.2.1.data.toList := by
    rcases h1 with h1 | ⟨_, h1⟩
    · rw [hsp] at h1; exact absurd h1 (List.lt_irrefl _)
    · rcases h2 with h2 | ⟨_, h2⟩
      · rw [hsp] at h2; exact absurd h2 (List.lt_irrefl _)
      · rcases h1 with h1 | h1
        · rcases h2 with h2 | h2
          · exact absurd (List.lt_trans h1 h2) (List.lt_irrefl _)
          · exact h2
        · exact h1.symm
  unfold nmA
  rw [bytes_inj hsp, bytes_inj hlo]
theorem nodup_eq {l : List Atr} (h : (l.map nmA).Nodup) {x y : Atr} (hx : x ∈ l) (hy : y ∈ l) (he : nmA x = nmA y) : x = y := by
  induction l with
  | nil => cases hx
  | cons z r ih =>
    rw [List.map_cons, List.nodup_cons] at h
    rcases List.mem_cons.1 hx with e1 | g1
    · rcases List.mem_cons.1 hy with e2 | g2
      · exact e1.trans e2.symm
      · exact absurd (by rw [← e1, he]; exact List.mem_map_of_mem g2) h.1
    · rcases List.mem_cons.1 hy with e2 | g2
      · exact absurd (by rw [← e2, ← he]; exact List.mem_map_of_mem g1) h.1
      · exact ih h.2 g1 g2
theorem sortA_perm (l : List Atr) : (sortA l).Perm l := List.mergeSort_perm _ _
theorem sortA_sorted (l : List Atr) : (sortA l).Pairwise fun x y => ltA y x = false := by
  have h := List.pairwise_mergeSort (le := fun x y => !ltA y x) (fun a b c h1 h2 => by
    simp only [Bool.not_eq_true'] at *
    exact swo_ltA.ntrans _ _ _ h2 h1) (fun a b => by
    cases h : ltA b a with
    | false => rfl
    | true => rw [swo_ltA.asymmA h]; rfl) l
  exact h.imp fun h => by simpa using h
theorem sort_unique {l l' : List Atr} (h : (l.map nmA).Nodup) (hp : l'.Perm l) (hs : l'.Pairwise fun x y => ltA y x = false) : l' = sortA l := by
  refine List.Perm.eq_of_pairwise (le := fun x y => ltA y x = false) (fun a b ha hb h1 h2 => ?_) hs (sortA_sorted l) (hp.trans (sortA_perm l).symm)
  exact nodup_eq h (hp.mem_iff.1 ha) ((sortA_perm l).mem_iff.1 hb) (ltA_eq h2 h1)
theorem sortA_length (l : List Atr) : (sortA l).length = l.length := (sortA_perm l).length_eq
/-- An array of attributes that is in order, and has these. -/
theorem sort_array {l : List Atr} {d : Array Atr} (h : (l.map nmA).Nodup) (hp : PermIn 0 l.length l.toArray d) (hs : SortedIn ltA 0 l.length d) : d = (sortA l).toArray := by
  obtain ⟨h1, _, h3⟩ := hp
  have hsz : d.size = l.length := by rw [h1]; simp
  have e1 : d.extract 0 l.length = d := by rw [← hsz]; exact Array.extract_size
  have e2 : l.toArray.extract 0 l.length = l.toArray := by
    have : l.toArray.size = l.length := by simp
    rw [← this]; exact Array.extract_size
  rw [e1, e2] at h3
  apply Array.toList_inj.1
  have h4 := sort_unique (l := l) (l' := d.toList) h (by simpa using h3) (by
    rw [List.pairwise_iff_getElem]
    intro i j hi hj hij
    have hi' : i < d.size := by simpa using hi
    have hj' : j < d.size := by simpa using hj
    have := hs i j (Nat.zero_le _) hij (by omega)
    rw [getElem!_pos d i hi', getElem!_pos d j hj'] at this
    simpa using this)
  rw [h4]
end Go.Proofs.YtojeclfcgnamoaaDoor

namespace Go.Proofs.YtojeclfcgnamoaaDoor

mutual
/-- The attributes' names are distinct, all through the tree. -/
def DistN : Nd → Prop
  | .mk _ _ _ al ks _ => (al.map nmA).Nodup ∧ DistsN ks
def DistsN : List Nd → Prop
  | [] => True
  | x :: r => DistN x ∧ DistsN r
end
theorem dists_mem : ∀ {l : List Nd} {x : Nd}, DistsN l → x ∈ l → DistN x
  | y :: r, x, h, hx => by
    unfold DistsN at h
    rcases List.mem_cons.1 hx with rfl | hx
    · exact h.1
    · exact dists_mem h.2 hx
mutual
/-- Right trees: text nodes, and elements, whose names are names. -/
def RightN : Nd → Prop
  | .mk _ sp lo al ks tx => (lo = ⟨#[]⟩ ∧ sp = ⟨#[]⟩ ∧ al = [] ∧ ks = [] ∧ tx ≠ ⟨#[]⟩) ∨ (lo ≠ ⟨#[]⟩ ∧ plainS lo = true ∧ tx = ⟨#[]⟩ ∧ (∀ a ∈ al, plainS a.2.1 = true) ∧ RightsN true ks)
def RightsN : Bool → List Nd → Prop
  | _, [] => True
  | may, x :: r => (x.lo = ⟨#[]⟩ → may = true) ∧ RightN x ∧ RightsN (decide (x.lo ≠ ⟨#[]⟩)) r
end
theorem named_plain {sp lo : ByteArray} {b : Bool} (h : namedS sp lo b = 0) : plainS lo = true := by
  unfold namedS at h
  cases hp : plainS lo with
  | true => rfl
  | false => rw [if_pos hp] at h; omega
theorem attrs_ok : ∀ (al : List Atr) (seen : List (ByteArray × ByteArray)), attrsS seen al = 0 → (∀ a ∈ al, plainS a.2.1 = true) ∧ (al.map nmA).Nodup ∧ ∀ a ∈ al, nmA a ∉ seen
  | [], seen, _ => ⟨by simp, by simp, by simp⟩
  | x :: r, seen, h => by
    unfold attrsS at h
    split at h
    · omega
    · rename_i h1
      split at h
      · omega
      · rename_i h2
        split at h
        · omega
        · obtain ⟨g1, g2, g3⟩ := attrs_ok r _ h
          have hx : nmA x ∉ seen := fun hm => h2 ((hasN_iff _ _ _).2 hm)
          refine ⟨fun a ha => ?_, ?_, fun a ha => ?_⟩
          · rcases List.mem_cons.1 ha with rfl | ha
            · exact named_plain (by simpa using h1)
            · exact g1 a ha
          · rw [List.map_cons, List.nodup_cons]
            refine ⟨fun hm => ?_, g2⟩
            obtain ⟨a, ha, he⟩ := List.mem_map.1 hm
            exact g3 a ha (by rw [he]; exact List.mem_append_right _ (List.mem_singleton.2 rfl))
          · rcases List.mem_cons.1 ha with rfl | ha
            · exact hx
            · exact fun hm => g3 a ha (List.mem_append_left _ hm)
mutual
theorem chk_right : ∀ (n : Nd) (deep : Nat) (may : Bool), chkN n deep may = 0 → RightN n ∧ DistN n ∧ (n.lo = ⟨#[]⟩ → may = true)
  | .mk t sp lo al ks tx, deep, may, h => by
    rw [chkN] at h
    split at h
    · omega
    · split at h
      · rename_i hlo
        split at h
        · omega
        · rename_i hm
          unfold textS6 at h
          split at h
          · omega
          · rename_i ht
            have hal : al = [] := by
              cases al with
              | nil => rfl
              | cons a r => exact absurd (.inr (.inl (by simp))) ht
            have hks : ks = [] := by
              cases ks with
              | nil => rfl
              | cons a r => exact absurd (.inr (.inr (.inl (by simp)))) ht
            have htx : tx ≠ ⟨#[]⟩ := fun e => ht (.inl e)
            have hsp : sp = ⟨#[]⟩ := by
              apply Classical.byContradiction
              intro e
              exact ht (.inr (.inr (.inr e)))
            refine ⟨?_, ?_, fun _ => by simpa using hm⟩
            · rw [RightN]
              exact .inl ⟨hlo, hsp, hal, hks, htx⟩
            · rw [DistN, hal, hks]
              exact ⟨by simp, by rw [DistsN]; trivial⟩
      · rename_i hlo
        split at h
        · rename_i h1; exact absurd h h1
        · rename_i h1
          have h1 : elemS sp lo tx al = 0 := by simpa using h1
          unfold elemS at h1
          split at h1
          · omega
          · rename_i htx
            split at h1
            · rename_i h2; exact absurd h1 h2
            · rename_i h2
              have h2 : namedS sp lo false = 0 := by simpa using h2
              obtain ⟨g1, g2, _⟩ := attrs_ok al [] h1
              obtain ⟨k1, k2⟩ := chks_right ks (deep + 1) true h
              refine ⟨?_, ?_, fun e => absurd e hlo⟩
              · rw [RightN]
                exact .inr ⟨hlo, named_plain h2, Classical.byContradiction htx, g1, k1⟩
              · rw [DistN]
                exact ⟨g2, k2⟩
theorem chks_right : ∀ (l : List Nd) (deep : Nat) (may : Bool), chksN l deep may = 0 → RightsN may l ∧ DistsN l
  | [], _, _, _ => by rw [RightsN, DistsN]; exact ⟨trivial, trivial⟩
  | x :: r, deep, may, h => by
    rw [chksN] at h
    split at h
    · rename_i h1; exact absurd h h1
    · rename_i h1
      obtain ⟨g1, g2, g3⟩ := chk_right x deep may (by simpa using h1)
      obtain ⟨k1, k2⟩ := chks_right r deep _ h
      rw [RightsN, DistsN]
      exact ⟨⟨g3, g1, k1⟩, g2, k2⟩
end
theorem check_right {n : Nd} (h : CheckN n = 0) : RightN n ∧ DistN n ∧ n.lo ≠ ⟨#[]⟩ := by
  obtain ⟨h1, h2, h3⟩ := chk_right n 1 false h
  exact ⟨h1, h2, fun e => by have := h3 e; simp at this⟩
theorem sortN_lo (n : Nd) : (sortN n).lo = n.lo := by obtain ⟨t, sp, lo, al, ks, tx⟩ := n; rw [sortN]; rfl
mutual
theorem right_sort : ∀ (n : Nd), RightN n → RightN (sortN n)
  | .mk t sp lo al ks tx, h => by
    rw [RightN] at h
    rw [sortN, RightN]
    rcases h with ⟨h1, h2, h3, h4, h5⟩ | ⟨h1, h2, h3, h4, h5⟩
    · subst h3 h4
      exact .inl ⟨h1, h2, List.Perm.eq_nil (sortA_perm []), by rw [sortsN], h5⟩
    · exact .inr ⟨h1, h2, h3, fun a ha => h4 a ((sortA_perm al).mem_iff.1 ha), rights_sort ks true h5⟩
theorem rights_sort : ∀ (l : List Nd) (may : Bool), RightsN may l → RightsN may (sortsN l)
  | [], _, _ => by rw [sortsN, RightsN]; trivial
  | x :: r, may, h => by
    rw [RightsN] at h
    rw [sortsN, RightsN, sortN_lo]
    exact ⟨h.1, right_sort x h.2.1, rights_sort r _ h.2.2⟩
end
mutual
/-- All texts are such that may be. -/
def FineN : Nd → Prop
  | .mk _ sp _ al ks tx => fineS sp = true ∧ (∀ a ∈ al, fineS a.1 = true ∧ fineS a.2.2 = true) ∧ fineS tx = true ∧ FinesN ks
def FinesN : List Nd → Prop
  | [] => True
  | x :: r => FineN x ∧ FinesN r
end
theorem fine_none : fineS ⟨#[]⟩ = true := by decide +kernel
theorem named_fine {sp lo : ByteArray} {b : Bool} (h : namedS sp lo b = 0) : fineS sp = true := by
  unfold namedS at h
  split at h
  · omega
  · split at h
    · omega
    · split at h
      · omega
      · rename_i h1
        cases hf : fineS sp with
        | true => rfl
        | false => exact absurd (.inr hf) h1
theorem attrs_fine : ∀ (al : List Atr) (seen : List (ByteArray × ByteArray)), attrsS seen al = 0 → ∀ a ∈ al, fineS a.1 = true ∧ fineS a.2.2 = true
  | [], _, _ => by simp
  | x :: r, seen, h => by
    unfold attrsS at h
    split at h
    · omega
    · rename_i h1
      split at h
      · omega
      · split at h
        · omega
        · rename_i h2
          intro a ha
          rcases List.mem_cons.1 ha with rfl | ha
          · exact ⟨named_fine (by simpa using h1), by simpa using h2⟩
          · exact attrs_fine r _ h a ha
mutual
theorem chk_fine : ∀ (n : Nd) (deep : Nat) (may : Bool), chkN n deep may = 0 → FineN n
  | .mk t sp lo al ks tx, deep, may, h => by
    have hr := chk_right (.mk t sp lo al ks tx) deep may h
    rw [RightN] at hr
    rw [chkN] at h
    split at h
    · omega
    · split at h
      · rename_i hlo
        split at h
        · omega
        · rcases hr.1 with ⟨_, h2, h3, h4, _⟩ | ⟨h1, _⟩
          · subst h2 h3 h4
            rw [FineN]
            refine ⟨fine_none, by simp, ?_, by rw [FinesN]; trivial⟩
            unfold textS6 at h
            split at h
            · omega
            · split at h
              · omega
              · rename_i h5; simpa using h5
          · exact absurd hlo h1
      · rename_i hlo
        rcases hr.1 with ⟨h1, _⟩ | ⟨_, _, h3, _⟩
        · exact absurd h1 hlo
        · split at h
          · rename_i h1; exact absurd h h1
          · rename_i h1
            have h1 : elemS sp lo tx al = 0 := by simpa using h1
            unfold elemS at h1
            rw [if_neg (fun e => e h3)] at h1
            split at h1
            · rename_i h2; exact absurd h1 h2
            · rename_i h2
              rw [FineN]
              exact ⟨named_fine (by simpa using h2), attrs_fine al [] h1, by rw [h3]; exact fine_none, chks_fine ks (deep + 1) true h⟩
theorem chks_fine : ∀ (l : List Nd) (deep : Nat) (may : Bool), chksN l deep may = 0 → FinesN l
  | [], _, _, _ => by rw [FinesN]; trivial
  | x :: r, deep, may, h => by
    rw [chksN] at h
    split at h
    · rename_i h1; exact absurd h h1
    · rename_i h1
      rw [FinesN]
      exact ⟨chk_fine x deep may (by simpa using h1), chks_fine r deep _ h⟩
end
mutual
theorem fine_sort : ∀ (n : Nd), FineN n → FineN (sortN n)
  | .mk t sp lo al ks tx, h => by
    rw [FineN] at h
    rw [sortN, FineN]
    exact ⟨h.1, fun a ha => h.2.1 a ((sortA_perm al).mem_iff.1 ha), h.2.2.1, fines_sort ks h.2.2.2⟩
theorem fines_sort : ∀ (l : List Nd), FinesN l → FinesN (sortsN l)
  | [], _ => by rw [sortsN, FinesN]; trivial
  | x :: r, h => by
    rw [FinesN] at h
    rw [sortsN, FinesN]
    exact ⟨fine_sort x h.1, fines_sort r h.2⟩
end
theorem fines_mem : ∀ {l : List Nd} {x : Nd}, FinesN l → x ∈ l → FineN x
  | y :: r, x, h, hx => by
    unfold FinesN at h
    rcases List.mem_cons.1 hx with rfl | hx
    · exact h.1
    · exact fines_mem h.2 hx
theorem rights_mem : ∀ {l : List Nd} {may : Bool} {x : Nd}, RightsN may l → x ∈ l → RightN x
  | y :: r, may, x, h, hx => by
    unfold RightsN at h
    rcases List.mem_cons.1 hx with rfl | hx
    · exact h.2.1
    · exact rights_mem h.2.2 hx
mutual
/-- All namespaces are such. -/
def allN (P : ByteArray → Prop) : Nd → Prop
  | .mk _ sp _ al ks _ => P sp ∧ (∀ a ∈ al, P a.1) ∧ allsN P ks
def allsN (P : ByteArray → Prop) : List Nd → Prop
  | [] => True
  | x :: r => allN P x ∧ allsN P r
end
theorem meet_all {P : ByteArray → Prop} {l : List Pr6} {s : ByteArray} (h : ∀ p ∈ l, P p.2) (hs : P s) : ∀ p ∈ meetP l s, P p.2 := fun p hp => by
  unfold meetP at hp
  split at hp
  · exact h p hp
  · rcases List.mem_append.1 hp with hp | hp
    · exact h p hp
    · obtain rfl := List.mem_singleton.1 hp
      exact hs
theorem meets_all {P : ByteArray → Prop} : ∀ (al : List Atr) (l : List Pr6), (∀ p ∈ l, P p.2) → (∀ a ∈ al, P a.1) → ∀ p ∈ meetsP l al, P p.2
  | [], _, h, _ => h
  | a :: r, l, h, ha => meets_all r (meetP l a.1) (meet_all h (ha a (List.mem_cons_self ..))) fun x hx => ha x (List.mem_cons_of_mem _ hx)
mutual
theorem met_all {P : ByteArray → Prop} : ∀ (n : Nd) (l : List Pr6), (∀ p ∈ l, P p.2) → allN P n → ∀ p ∈ metN l n, P p.2
  | .mk t sp lo al ks tx, l, h, hn => by
    rw [allN] at hn
    rw [metN]
    exact mets_all ks _ (meets_all al _ (meet_all h hn.1) hn.2.1) hn.2.2
theorem mets_all {P : ByteArray → Prop} : ∀ (ks : List Nd) (l : List Pr6), (∀ p ∈ l, P p.2) → allsN P ks → ∀ p ∈ metsN l ks, P p.2
  | [], _, h, _ => by rw [metsN]; exact h
  | x :: r, l, h, hn => by
    rw [allsN] at hn
    rw [metsN]
    exact mets_all r _ (met_all x l h hn.1) hn.2
end
mutual
theorem fine_all : ∀ (n : Nd), FineN n → allN (fun s => fineS s = true) n
  | .mk t sp lo al ks tx, h => by
    rw [FineN] at h
    rw [allN]
    exact ⟨h.1, fun a ha => (h.2.1 a ha).1, fines_all ks h.2.2.2⟩
theorem fines_all : ∀ (l : List Nd), FinesN l → allsN (fun s => fineS s = true) l
  | [], _ => by rw [allsN]; trivial
  | x :: r, h => by
    rw [FinesN] at h
    rw [allsN]
    exact ⟨fine_all x h.1, fines_all r h.2⟩
end
mutual
theorem size_all (B : Nat) : ∀ (n : Nd), n.bulk ≤ B → allN (fun s => s.size ≤ B) n
  | .mk t sp lo al ks tx, h => by
    rw [nd_bulk] at h
    rw [allN]
    have h1 : (Nd.mk t sp lo al ks tx).sp = sp := rfl
    have h2 : (Nd.mk t sp lo al ks tx).al = al := rfl
    have h3 : (Nd.mk t sp lo al ks tx).ks = ks := rfl
    rw [h1, h2, h3] at h
    exact ⟨by omega, fun a ha => by have := atr_mem ha; omega, sizes_all B ks (by omega)⟩
theorem sizes_all (B : Nat) : ∀ (l : List Nd), Nd.bulk.bulks l ≤ B → allsN (fun s => s.size ≤ B) l
  | [], _ => by rw [allsN]; trivial
  | x :: r, h => by
    rw [Nd.bulk.bulks] at h
    rw [allsN]
    exact ⟨size_all B x (by omega), sizes_all B r (by omega)⟩
end
end Go.Proofs.YtojeclfcgnamoaaDoor
