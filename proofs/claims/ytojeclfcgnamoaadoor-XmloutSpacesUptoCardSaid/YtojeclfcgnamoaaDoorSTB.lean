/-
  The stable sort of Go's slices in plain Lean: symMerge merges, stable sorts.
-/
import Derived.Test.YtojeclfcgnamoaaDoorSTA
namespace Go.Proofs.YtojeclfcgnamoaaDoor
open Go.Sort
theorem SWO.le {α : Type} {lt : α → α → Bool} (h : SWO lt) {x y z : α} (h1 : lt y x = false) (h2 : lt z y = false) : lt z x = false := h.ntrans z y x h2 h1
theorem SWO.asy {α : Type} {lt : α → α → Bool} (h : SWO lt) {x y : α} (hxy : lt x y = true) : lt y x = false := h.asymmA hxy
section
variable {α : Type} [Inhabited α]

theorem sortedIn_congr {lt : α → α → Bool} {a b : Nat} {d d' : Array α} (h : SortedIn lt a b d) (he : ∀ x, a ≤ x → x < b → d'[x]! = d[x]!) : SortedIn lt a b d' := fun i j h1 h2 h3 => by
  rw [he i h1 (by omega), he j (by omega) h3]
  exact h i j h1 h2 h3
theorem permIn_same {a b : Nat} {d d' : Array α} (h : PermIn a b d d') : d'.size = d.size := h.1
/-- symMerge. -/
def symF (lt : α → α → Bool) : Nat → Nat → Nat → Nat → Array α → Array α
  | 0, _, _, _, d => d
  | f + 1, a, m, b, d =>
    if m - a = 1 then shU a (bs (fun h => lt d[h]! d[a]!) m b - 1 - a) d
    else if b - m = 1 then shD m (m - bs (fun h => !lt d[m]! d[h]!) a m) d
    else
      let s := if (a + b) / 2 < m then bs (fun c => !lt d[(a + b) / 2 + m - 1 - c]! d[c]!) ((a + b) / 2 + m - b) ((a + b) / 2) else bs (fun c => !lt d[(a + b) / 2 + m - 1 - c]! d[c]!) a m
      let e := (a + b) / 2 + m - s
      let d1 := if s < m ∧ m < e then rotF m (e - s) (m - s) (e - m) d else d
      let d2 := if a < s ∧ s < (a + b) / 2 then symF lt f a s ((a + b) / 2) d1 else d1
      if (a + b) / 2 < e ∧ e < b then symF lt f ((a + b) / 2) e b d2 else d2
theorem sorted_le {lt : α → α → Bool} (hS : SWO lt) {a b : Nat} {d : Array α} (h : SortedIn lt a b d) {x y : Nat} (h1 : a ≤ x) (h2 : x ≤ y) (h3 : y < b) : lt d[y]! d[x]! = false := by
  by_cases e : x = y
  · subst e; exact hS.irrefl _
  · exact h x y h1 (by omega) h3
theorem sym_one {lt : α → α → Bool} (hS : SWO lt) {a b i : Nat} {d r : Array α} (hB : SortedIn lt (a + 1) b d) (hi1 : a + 1 ≤ i) (hi2 : i ≤ b)
    (h1 : i = a + 1 ∨ lt d[i - 1]! d[a]! = true) (h2 : i = b ∨ lt d[i]! d[a]! = false) (hr : ∀ x, r[x]! = if a ≤ x ∧ x < a + (i - 1 - a) then d[x + 1]! else if x = a + (i - 1 - a) then d[a]! else d[x]!) : SortedIn lt a b r := by
  intro x y hx hxy hy
  have ex := hr x
  have ey := hr y
  by_cases c1 : x < i - 1
  · rw [if_pos (by omega)] at ex
    by_cases c2 : y < i - 1
    · rw [if_pos (by omega)] at ey
      rw [ex, ey]
      exact hB _ _ (by omega) (by omega) (by omega)
    · rw [if_neg (by omega)] at ey
      by_cases c3 : y = i - 1
      · rw [if_pos (by omega)] at ey
        rw [ex, ey]
        rcases h1 with h1 | h1
        · omega
        · cases hh : lt d[a]! d[x + 1]! with
          | false => rfl
          | true =>
            have h3 := hS.trans _ _ _ h1 hh
            rw [sorted_le hS hB (x := x + 1) (y := i - 1) (by omega) (by omega) (by omega)] at h3
            cases h3
      · rw [if_neg (by omega)] at ey
        rw [ex, ey]
        exact hB _ _ (by omega) (by omega) hy
  · rw [if_neg (by omega)] at ex ey
    rw [if_neg (by omega)] at ey
    by_cases c2 : x = i - 1
    · rw [if_pos (by omega)] at ex
      rw [ex, ey]
      rcases h2 with h2 | h2
      · omega
      · exact SWO.le hS h2 (sorted_le hS hB (x := i) (y := y) (by omega) (by omega) hy)
    · rw [if_neg (by omega)] at ex
      rw [ex, ey]
      exact hB _ _ (by omega) hxy hy
theorem sym_last {lt : α → α → Bool} (hS : SWO lt) {a m i : Nat} {d r : Array α} (hA : SortedIn lt a m d) (hi1 : a ≤ i) (hi2 : i ≤ m)
    (h1 : i = a ∨ lt d[m]! d[i - 1]! = false) (h2 : i = m ∨ lt d[m]! d[i]! = true) (hr : ∀ x, r[x]! = if m - (m - i) < x ∧ x ≤ m then d[x - 1]! else if x = m - (m - i) then d[m]! else d[x]!) : SortedIn lt a (m + 1) r := by
  intro x y hx hxy hy
  have ex := hr x
  have ey := hr y
  by_cases c1 : i < x
  · rw [if_pos (by omega)] at ex ey
    rw [ex, ey]
    exact hA _ _ (by omega) (by omega) (by omega)
  · rw [if_neg (by omega)] at ex
    by_cases c2 : x = i
    · rw [if_pos (by omega)] at ex ey
      rw [ex, ey]
      rcases h2 with h2 | h2
      · omega
      · cases hh : lt d[y - 1]! d[m]! with
        | false => rfl
        | true =>
          have h3 := hS.trans _ _ _ hh h2
          rw [sorted_le hS hA (x := i) (y := y - 1) (by omega) (by omega) (by omega)] at h3
          cases h3
    · rw [if_neg (by omega)] at ex
      by_cases c3 : y = i
      · rw [if_neg (by omega), if_pos (by omega)] at ey
        rw [ex, ey]
        rcases h1 with h1 | h1
        · omega
        · exact SWO.le hS (sorted_le hS hA (x := x) (y := i - 1) (by omega) (by omega) (by omega)) h1
      · by_cases c4 : i < y
        · rw [if_pos (by omega)] at ey
          rw [ex, ey]
          exact hA _ _ (by omega) (by omega) (by omega)
        · rw [if_neg (by omega), if_neg (by omega)] at ey
          rw [ex, ey]
          exact hA _ _ (by omega) hxy (by omega)
/-- Two halves, each permuted, the left one's no more than the right one's: the same behind. -/
theorem cross_perm {lt : α → α → Bool} {a mid b : Nat} {d1 d2 d3 : Array α} (hb : b ≤ d1.size) (_ham : a ≤ mid) (hmb : mid ≤ b) (h12 : PermIn a mid d1 d2) (h23 : PermIn mid b d2 d3)
    (hc : ∀ x y, a ≤ x → x < mid → mid ≤ y → y < b → lt d1[y]! d1[x]! = false) (hl : SortedIn lt a mid d2) (hr : SortedIn lt mid b d3) : SortedIn lt a b d3 := by
  have e1 : ∀ x, x < mid → d3[x]! = d2[x]! := fun x hx => h23.2.1 x (.inl hx)
  have e2 : ∀ y, mid ≤ y → d2[y]! = d1[y]! := fun y hy => h12.2.1 y (.inr hy)
  have k1 : ∀ x, a ≤ x → x < mid → ∀ y, mid ≤ y → y < b → lt d1[y]! d2[x]! = false :=
    permIn_all d1 d2 a mid (fun v => ∀ y, mid ≤ y → y < b → lt d1[y]! v = false) (by omega) h12 (fun x h1 h2 y h3 h4 => hc x y h1 h2 h3 h4)
  have k2 : ∀ y, mid ≤ y → y < b → ∀ x, a ≤ x → x < mid → lt d3[y]! d2[x]! = false :=
    permIn_all d2 d3 mid b (fun v => ∀ x, a ≤ x → x < mid → lt v d2[x]! = false) (by rw [h12.1]; exact hb) h23 (fun y h1 h2 x h3 h4 => by rw [e2 y h1]; exact k1 x h3 h4 y h1 h2)
  intro x y hx hxy hy
  by_cases c1 : y < mid
  · rw [e1 x (by omega), e1 y c1]
    exact hl x y hx hxy c1
  · by_cases c2 : mid ≤ x
    · exact hr x y c2 hxy hy
    · rw [e1 x (by omega)]
      exact k2 y (by omega) hy x hx (by omega)
theorem symF_spec {lt : α → α → Bool} (hS : SWO lt) : ∀ (f a m b : Nat) (d : Array α), b - a ≤ f → a < m → m < b → b ≤ d.size → SortedIn lt a m d → SortedIn lt m b d →
    PermIn a b d (symF lt f a m b d) ∧ SortedIn lt a b (symF lt f a m b d)
  | 0, a, m, b, d, hf, h1, h2, _, _, _ => by omega
  | f + 1, a, m, b, d, hf, h1, h2, h3, hA, hB => by
    unfold symF
    by_cases c1 : m - a = 1
    · rw [if_pos c1]
      obtain rfl : m = a + 1 := by omega
      obtain ⟨g1, g2, g3, g4⟩ := bs_spec (fun h => lt d[h]! d[a]!) (b - (a + 1)) (a + 1) b (Nat.le_refl _) (by omega)
      generalize bs (fun h => lt d[h]! d[a]!) (a + 1) b = i at g1 g2 g3 g4
      obtain ⟨p1, p2⟩ := shU_spec a b (i - 1 - a) a d (Nat.le_refl _) (by omega) h3
      exact ⟨p1, sym_one hS hB g1 g2 g3 g4 p2⟩
    · rw [if_neg c1]
      by_cases c2 : b - m = 1
      · rw [if_pos c2]
        obtain rfl : b = m + 1 := by omega
        obtain ⟨g1, g2, g3, g4⟩ := bs_spec (fun h => !lt d[m]! d[h]!) (m - a) a m (Nat.le_refl _) (by omega)
        generalize bs (fun h => !lt d[m]! d[h]!) a m = i at g1 g2 g3 g4
        obtain ⟨p1, p2⟩ := shD_spec a (m + 1) (m - i) m d (by omega) (by omega) h3
        exact ⟨p1, sym_last hS hA g1 g2 (by simpa using g3) (by simpa using g4) p2⟩
      · rw [if_neg c2]
        dsimp only
        obtain ⟨mid, hmid⟩ : ∃ x, (a + b) / 2 = x := ⟨_, rfl⟩
        rw [hmid]
        have hm1 : a < mid := by omega
        have hm2 : mid < b := by omega
        have key : ∃ s, (if mid < m then bs (fun c => !lt d[mid + m - 1 - c]! d[c]!) (mid + m - b) mid else bs (fun c => !lt d[mid + m - 1 - c]! d[c]!) a m) = s ∧ a ≤ s ∧ s ≤ m ∧ s ≤ mid ∧ m ≤ mid + m - s ∧ mid ≤ mid + m - s ∧ mid + m - s ≤ b ∧
            (s = a ∨ mid + m - s = b ∨ lt d[mid + m - s]! d[s - 1]! = false) ∧ (s = m ∨ mid + m - s = m ∨ lt d[mid + m - s - 1]! d[s]! = true) := by
          by_cases g : mid < m
          · rw [if_pos g]
            obtain ⟨q1, q2, q3, q4⟩ := bs_spec (fun c => !lt d[mid + m - 1 - c]! d[c]!) (mid - (mid + m - b)) (mid + m - b) mid (Nat.le_refl _) (by omega)
            generalize bs (fun c => !lt d[mid + m - 1 - c]! d[c]!) (mid + m - b) mid = s at q1 q2 q3 q4
            refine ⟨s, rfl, by omega, by omega, by omega, by omega, by omega, by omega, ?_, ?_⟩
            · rcases q3 with q3 | q3
              · exact .inr (.inl (by omega))
              · by_cases hs0 : s = a
                · exact .inl hs0
                · refine .inr (.inr ?_)
                  have : mid + m - 1 - (s - 1) = mid + m - s := by omega
                  rw [this] at q3
                  simpa using q3
            · rcases q4 with q4 | q4
              · exact .inr (.inl (by omega))
              · refine .inr (.inr ?_)
                have : mid + m - 1 - s = mid + m - s - 1 := by omega
                rw [this] at q4
                simpa using q4
          · rw [if_neg g]
            obtain ⟨q1, q2, q3, q4⟩ := bs_spec (fun c => !lt d[mid + m - 1 - c]! d[c]!) (m - a) a m (Nat.le_refl _) (by omega)
            generalize bs (fun c => !lt d[mid + m - 1 - c]! d[c]!) a m = s at q1 q2 q3 q4
            refine ⟨s, rfl, by omega, by omega, by omega, by omega, by omega, by omega, ?_, ?_⟩
            · rcases q3 with q3 | q3
              · exact .inl q3
              · by_cases hs0 : s = a
                · exact .inl hs0
                · refine .inr (.inr ?_)
                  have : mid + m - 1 - (s - 1) = mid + m - s := by omega
                  rw [this] at q3
                  simpa using q3
            · rcases q4 with q4 | q4
              · exact .inl q4
              · refine .inr (.inr ?_)
                have : mid + m - 1 - s = mid + m - s - 1 := by omega
                rw [this] at q4
                simpa using q4
        obtain ⟨s, hs, s1, s2, s3, s4, s5, s6, s7, s8⟩ := key
        rw [hs]
        obtain ⟨e, he⟩ : ∃ e, mid + m - s = e := ⟨_, rfl⟩
        rw [he] at s4 s5 s6 s7 s8 ⊢
        -- the rotation
        have rot : ∃ d1, (if s < m ∧ m < e then rotF m (e - s) (m - s) (e - m) d else d) = d1 ∧ PermIn a b d d1 ∧ ∀ x, d1[x]! = if s ≤ x ∧ x < mid then d[x + (m - s)]! else if mid ≤ x ∧ x < e then d[x - (e - m)]! else d[x]! := by
          by_cases g : s < m ∧ m < e
          · rw [if_pos g]
            obtain ⟨r1, r2⟩ := rotF_spec m a b (e - s) (m - s) (e - m) d (by omega) (by omega) (by omega) (by omega) (by omega) (by omega) h3
            refine ⟨_, rfl, r1, fun x => ?_⟩
            rw [r2 x, show m - (m - s) = s from by omega, show s + (e - m) = mid from by omega, show m + (e - m) = e from by omega]
          · rw [if_neg g]
            refine ⟨_, rfl, permIn_refl d a b, fun x => ?_⟩
            by_cases q : s = m
            · by_cases c : s ≤ x ∧ x < mid
              · rw [if_pos c]; congr 1; omega
              · rw [if_neg c, if_neg (by omega)]
            · by_cases c : mid ≤ x ∧ x < e
              · rw [if_neg (by omega), if_pos c]; congr 1; omega
              · rw [if_neg (by omega), if_neg c]
        obtain ⟨d1, hd1, hp1, hg1⟩ := rot
        rw [hd1]
        have hsz1 := hp1.1
        have runA : SortedIn lt a s d1 := sortedIn_congr (fun i j u1 u2 u3 => hA i j u1 u2 (by omega)) fun x u1 u2 => by rw [hg1 x, if_neg (by omega), if_neg (by omega)]
        have runB : SortedIn lt s mid d1 := fun i j u1 u2 u3 => by
          rw [hg1 i, hg1 j, if_pos (by omega), if_pos (by omega)]
          exact hB _ _ (by omega) (by omega) (by omega)
        have runC : SortedIn lt mid e d1 := fun i j u1 u2 u3 => by
          rw [hg1 i, hg1 j, if_neg (by omega), if_pos (by omega), if_neg (by omega), if_pos (by omega)]
          exact hA _ _ (by omega) (by omega) (by omega)
        have runD : SortedIn lt e b d1 := sortedIn_congr (fun i j u1 u2 u3 => hB i j (by omega) u2 u3) fun x u1 u2 => by rw [hg1 x, if_neg (by omega), if_neg (by omega)]
        have cross : ∀ x y, a ≤ x → x < mid → mid ≤ y → y < b → lt d1[y]! d1[x]! = false := by
          intro x y x1 x2 y1 y2
          have ex := hg1 x
          have ey := hg1 y
          rw [if_neg (show ¬ (s ≤ y ∧ y < mid) by omega)] at ey
          by_cases cx : s ≤ x
          · rw [if_pos (by omega)] at ex
            by_cases cy : y < e
            · rw [if_pos (by omega)] at ey
              rw [ex, ey]
              rcases s8 with s8 | s8 | s8
              · omega
              · omega
              · have u1 := sorted_le hS hB (x := x + (m - s)) (y := e - 1) (by omega) (by omega) (by omega)
                have u2 := sorted_le hS hA (x := s) (y := y - (e - m)) (by omega) (by omega) (by omega)
                exact SWO.le hS u1 (SWO.le hS (SWO.asy hS s8) u2)
            · rw [if_neg (by omega)] at ey
              rw [ex, ey]
              exact hB _ _ (by omega) (by omega) y2
          · rw [if_neg (by omega), if_neg (by omega)] at ex
            by_cases cy : y < e
            · rw [if_pos (by omega)] at ey
              rw [ex, ey]
              exact hA _ _ x1 (by omega) (by omega)
            · rw [if_neg (by omega)] at ey
              rw [ex, ey]
              rcases s7 with s7 | s7 | s7
              · omega
              · omega
              · have u1 := sorted_le hS hA (x := x) (y := s - 1) (by omega) (by omega) (by omega)
                have u2 := sorted_le hS hB (x := e) (y := y) (by omega) (by omega) y2
                exact SWO.le hS (SWO.le hS u1 s7) u2
        have left : ∃ d2, (if a < s ∧ s < mid then symF lt f a s mid d1 else d1) = d2 ∧ PermIn a mid d1 d2 ∧ SortedIn lt a mid d2 := by
          by_cases g : a < s ∧ s < mid
          · rw [if_pos g]
            obtain ⟨u1, u2⟩ := symF_spec hS f a s mid d1 (by omega) g.1 g.2 (by omega) runA runB
            exact ⟨_, rfl, u1, u2⟩
          · rw [if_neg g]
            refine ⟨_, rfl, permIn_refl d1 a mid, ?_⟩
            by_cases q : s = a
            · rw [q] at runB; exact runB
            · obtain rfl : s = mid := by omega
              exact runA
        obtain ⟨d2, hd2, hp2, hs2⟩ := left
        rw [hd2]
        have hsz2 := hp2.1
        have keep2 : ∀ y, mid ≤ y → d2[y]! = d1[y]! := fun y hy => hp2.2.1 y (.inr hy)
        have runC2 : SortedIn lt mid e d2 := sortedIn_congr runC fun x u1 _ => keep2 x u1
        have runD2 : SortedIn lt e b d2 := sortedIn_congr runD fun x u1 _ => keep2 x (by omega)
        have right : ∃ d3, (if mid < e ∧ e < b then symF lt f mid e b d2 else d2) = d3 ∧ PermIn mid b d2 d3 ∧ SortedIn lt mid b d3 := by
          by_cases g : mid < e ∧ e < b
          · rw [if_pos g]
            obtain ⟨u1, u2⟩ := symF_spec hS f mid e b d2 (by omega) g.1 g.2 (by omega) runC2 runD2
            exact ⟨_, rfl, u1, u2⟩
          · rw [if_neg g]
            refine ⟨_, rfl, permIn_refl d2 mid b, ?_⟩
            by_cases q : e = b
            · rw [q] at runC2; exact runC2
            · obtain rfl : e = mid := by omega
              exact runD2
        obtain ⟨d3, hd3, hp3, hs3⟩ := right
        rw [hd3]
        refine ⟨permIn_trans _ _ _ _ _ hp1 (permIn_trans _ _ _ _ _ (permIn_mono d1 d2 a mid a b (Nat.le_refl _) (by omega) (by omega) hp2) (permIn_mono d2 d3 mid b a b (by omega) (Nat.le_refl _) (by omega) hp3)), ?_⟩
        exact cross_perm (by omega) (by omega) (by omega) hp2 hp3 cross hs2 hs3
/-- The blocks of twenty, each sorted by itself. -/
def insB (lt : α → α → Bool) (n : Nat) : Nat → Nat → Array α → Array α
  | 0, a, d => insertionSort lt d a n
  | f + 1, a, d => if a + 20 ≤ n then insB lt n f (a + 20) (insertionSort lt d a (a + 20)) else insertionSort lt d a n
/-- Two blocks at a time. -/
def mrgP (lt : α → α → Bool) (z n : Nat) : Nat → Nat → Array α → Array α
  | 0, _, d => d
  | f + 1, a, d => if a + 2 * z ≤ n then mrgP lt z n f (a + 2 * z) (symF lt (2 * z) a (a + z) (a + 2 * z) d) else if a + z < n then symF lt (n - a) a (a + z) n d else d
def stF (lt : α → α → Bool) (n : Nat) : Nat → Nat → Array α → Array α
  | 0, _, d => d
  | f + 1, z, d => if z < n then stF lt n f (z * 2) (mrgP lt z n (n + 1) 0 d) else d
/-- The stable sort. -/
def stableF (lt : α → α → Bool) (n : Nat) (d : Array α) : Array α := stF lt n (n + 1) 20 (insB lt n n 0 d)
/-- From block q on each block of z is sorted. -/
def Runs (lt : α → α → Bool) (z q n : Nat) (d : Array α) : Prop := ∀ j, q ≤ j → SortedIn lt (j * z) (min ((j + 1) * z) n) d
theorem insB_spec {lt : α → α → Bool} (hS : SWO lt) (n : Nat) : ∀ (f q : Nat) (d : Array α), n ≤ q * 20 + f → q * 20 ≤ n → n ≤ d.size → (∀ j, j < q → SortedIn lt (j * 20) ((j + 1) * 20) d) →
    PermIn 0 n d (insB lt n f (q * 20) d) ∧ Runs lt 20 0 n (insB lt n f (q * 20) d)
  | 0, q, d, hf, hq, hn, hd => by
    unfold insB
    obtain ⟨h1, h2⟩ := insertionSort_holds hS d (q * 20) n hq hn
    refine ⟨permIn_mono _ _ _ _ 0 n (by omega) (Nat.le_refl _) hn h1, fun j _ => ?_⟩
    by_cases c : j < q
    · refine sortedIn_congr (fun u v a1 a2 a3 => hd j c u v a1 a2 (by omega)) fun x a1 a2 => h1.2.1 x (.inl (by omega))
    · intro u v a1 a2 a3
      exact h2 u v (by omega) a2 (by omega)
  | f + 1, q, d, hf, hq, hn, hd => by
    unfold insB
    by_cases c : q * 20 + 20 ≤ n
    · rw [if_pos c]
      obtain ⟨h1, h2⟩ := insertionSort_holds hS d (q * 20) (q * 20 + 20) (by omega) (by omega)
      have hsz := h1.1
      generalize insertionSort lt d (q * 20) (q * 20 + 20) = d1 at h1 h2 hsz
      obtain ⟨r1, r2⟩ := insB_spec hS n f (q + 1) d1 (by omega) (by omega) (by omega) fun j hj => by
        by_cases e : j = q
        · subst e
          intro u v a1 a2 a3
          exact h2 u v (by omega) a2 (by omega)
        · exact sortedIn_congr (hd j (by omega)) fun x a1 a2 => h1.2.1 x (.inl (by omega))
      rw [show (q + 1) * 20 = q * 20 + 20 from by omega] at r1 r2
      exact ⟨permIn_trans _ _ _ _ _ (permIn_mono _ _ _ _ 0 n (by omega) c hn h1) r1, r2⟩
    · rw [if_neg c]
      obtain ⟨h1, h2⟩ := insertionSort_holds hS d (q * 20) n hq hn
      refine ⟨permIn_mono _ _ _ _ 0 n (by omega) (Nat.le_refl _) hn h1, fun j _ => ?_⟩
      by_cases c : j < q
      · refine sortedIn_congr (fun u v a1 a2 a3 => hd j c u v a1 a2 (by omega)) fun x a1 a2 => h1.2.1 x (.inl (by omega))
      · intro u v a1 a2 a3
        exact h2 u v (by omega) a2 (by omega)
theorem mul_lt_step {j q z : Nat} (h : j < q) : (j + 1) * z ≤ q * z := Nat.mul_le_mul_right z h
theorem mrgP_spec {lt : α → α → Bool} (hS : SWO lt) (z n : Nat) (hz : 1 ≤ z) : ∀ (f q : Nat) (d : Array α), n < q * (2 * z) + f → n ≤ d.size → (∀ j, j < q → SortedIn lt (j * (2 * z)) (min ((j + 1) * (2 * z)) n) d) → Runs lt z (2 * q) n d →
    PermIn 0 n d (mrgP lt z n f (q * (2 * z)) d) ∧ Runs lt (2 * z) 0 n (mrgP lt z n f (q * (2 * z)) d)
  | 0, q, d, hf, hn, hd, hr => by
    unfold mrgP
    refine ⟨permIn_refl d 0 n, fun j _ => ?_⟩
    by_cases c : j < q
    · exact hd j c
    · intro u v a1 a2 a3
      have : q * (2 * z) ≤ j * (2 * z) := Nat.mul_le_mul_right _ (by omega)
      omega
  | f + 1, q, d, hf, hn, hd, hr => by
    have e1 : (2 * q) * z = q * (2 * z) := by rw [Nat.mul_comm 2 q, Nat.mul_assoc]
    have e2 : (2 * q + 1) * z = q * (2 * z) + z := by rw [Nat.succ_mul, e1]
    have e3 : (2 * q + 1 + 1) * z = q * (2 * z) + 2 * z := by rw [Nat.succ_mul, e2]; omega
    have e4 : (q + 1) * (2 * z) = q * (2 * z) + 2 * z := Nat.succ_mul _ _
    have run1 := hr (2 * q) (Nat.le_refl _)
    have run2 := hr (2 * q + 1) (by omega)
    rw [e1, e2] at run1
    rw [e2, e3] at run2
    unfold mrgP
    obtain ⟨a, ha⟩ : ∃ a, q * (2 * z) = a := ⟨_, rfl⟩
    rw [ha] at run1 run2 e4 hf ⊢
    by_cases c : a + 2 * z ≤ n
    · rw [if_pos c]
      have ra : SortedIn lt a (a + z) d := fun u v a1 a2 a3 => run1 u v a1 a2 (by omega)
      have rb : SortedIn lt (a + z) (a + 2 * z) d := fun u v a1 a2 a3 => run2 u v a1 a2 (by omega)
      obtain ⟨h1, h2⟩ := symF_spec hS (2 * z) a (a + z) (a + 2 * z) d (by omega) (by omega) (by omega) (by omega) ra rb
      have hsz := h1.1
      generalize symF lt (2 * z) a (a + z) (a + 2 * z) d = d1 at h1 h2 hsz
      obtain ⟨r1, r2⟩ := mrgP_spec hS z n hz f (q + 1) d1 (by rw [e4]; omega) (by omega) (fun j hj => by
        by_cases e : j = q
        · subst e
          rw [ha, e4]
          intro u v a1 a2 a3
          exact h2 u v a1 a2 (by omega)
        · have hle : (j + 1) * (2 * z) ≤ q * (2 * z) := mul_lt_step (by omega)
          refine sortedIn_congr (hd j (by omega)) fun x a1 a2 => h1.2.1 x (.inl (by omega))) (fun j hj => by
        refine sortedIn_congr (hr j (by omega)) fun x a1 a2 => h1.2.1 x (.inr ?_)
        have hle : (2 * q + 1 + 1) * z ≤ j * z := Nat.mul_le_mul_right z (by omega)
        rw [e3, ha] at hle
        omega)
      rw [e4] at r1 r2
      exact ⟨permIn_trans _ _ _ _ _ (permIn_mono _ _ _ _ 0 n (by omega) c hn h1) r1, r2⟩
    · rw [if_neg c]
      have far : ∀ j, q < j → n ≤ j * (2 * z) := fun j hj => by
        have : (q + 1) * (2 * z) ≤ j * (2 * z) := Nat.mul_le_mul_right _ hj
        rw [e4] at this
        omega
      by_cases c2 : a + z < n
      · rw [if_pos c2]
        have ra : SortedIn lt a (a + z) d := fun u v a1 a2 a3 => run1 u v a1 a2 (by omega)
        have rb : SortedIn lt (a + z) n d := fun u v a1 a2 a3 => run2 u v a1 a2 (by omega)
        obtain ⟨h1, h2⟩ := symF_spec hS (n - a) a (a + z) n d (by omega) (by omega) c2 hn ra rb
        refine ⟨permIn_mono _ _ _ _ 0 n (by omega) (Nat.le_refl _) hn h1, fun j _ => ?_⟩
        by_cases c3 : j < q
        · have hle : (j + 1) * (2 * z) ≤ q * (2 * z) := mul_lt_step c3
          refine sortedIn_congr (hd j c3) fun x a1 a2 => h1.2.1 x (.inl (by omega))
        · by_cases c4 : j = q
          · subst c4
            rw [ha]
            intro u v a1 a2 a3
            exact h2 u v a1 a2 (by omega)
          · have := far j (by omega)
            intro u v a1 a2 a3
            omega
      · rw [if_neg c2]
        refine ⟨permIn_refl d 0 n, fun j _ => ?_⟩
        by_cases c3 : j < q
        · exact hd j c3
        · by_cases c4 : j = q
          · subst c4
            rw [ha]
            intro u v a1 a2 a3
            exact run1 u v a1 a2 (by omega)
          · have := far j (by omega)
            intro u v a1 a2 a3
            omega
theorem stF_spec {lt : α → α → Bool} (hS : SWO lt) (n : Nat) : ∀ (f z : Nat) (d : Array α), 1 ≤ z → n ≤ z + f → n ≤ d.size → Runs lt z 0 n d → PermIn 0 n d (stF lt n f z d) ∧ SortedIn lt 0 n (stF lt n f z d)
  | 0, z, d, hz, hf, hn, hr => by
    unfold stF
    refine ⟨permIn_refl d 0 n, fun u v a1 a2 a3 => ?_⟩
    have := hr 0 (Nat.le_refl _)
    rw [Nat.zero_mul, Nat.zero_add, Nat.one_mul] at this
    exact this u v a1 a2 (by omega)
  | f + 1, z, d, hz, hf, hn, hr => by
    unfold stF
    by_cases c : z < n
    · rw [if_pos c]
      obtain ⟨h1, h2⟩ := mrgP_spec hS z n hz (n + 1) 0 d (by omega) hn (fun j hj => by omega) hr
      rw [Nat.zero_mul] at h1 h2
      have hsz := h1.1
      generalize mrgP lt z n (n + 1) 0 d = d1 at h1 h2 hsz
      obtain ⟨r1, r2⟩ := stF_spec hS n f (z * 2) d1 (by omega) (by omega) (by omega) (by rw [Nat.mul_comm]; exact h2)
      exact ⟨permIn_trans _ _ _ _ _ h1 r1, r2⟩
    · rw [if_neg c]
      refine ⟨permIn_refl d 0 n, fun u v a1 a2 a3 => ?_⟩
      have := hr 0 (Nat.le_refl _)
      rw [Nat.zero_mul, Nat.zero_add, Nat.one_mul] at this
      exact this u v a1 a2 (by omega)
/-- The stable sort sorts. -/
theorem stableF_spec {lt : α → α → Bool} (hS : SWO lt) (d : Array α) : PermIn 0 d.size d (stableF lt d.size d) ∧ SortedIn lt 0 d.size (stableF lt d.size d) := by
  unfold stableF
  obtain ⟨h1, h2⟩ := insB_spec hS d.size d.size 0 d (by omega) (by omega) (Nat.le_refl _) (fun j hj => by omega)
  rw [Nat.zero_mul] at h1 h2
  have hsz := h1.1
  generalize insB lt d.size d.size 0 d = d1 at h1 h2 hsz
  obtain ⟨r1, r2⟩ := stF_spec hS d.size (d.size + 1) 20 d1 (by omega) (by omega) (by omega) h2
  exact ⟨permIn_trans _ _ _ _ _ h1 r1, r2⟩
end
end Go.Proofs.YtojeclfcgnamoaaDoor
