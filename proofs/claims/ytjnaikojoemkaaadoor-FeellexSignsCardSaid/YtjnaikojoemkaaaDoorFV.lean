/-
  feellex: rows of tokens; the walk of the document's Same.
-/
import Derived.Test.YtjnaikojoemkaaaDoorFU
import Derived.BigQuiet
import Derived.Deep.QuietTactic
namespace Go.Proofs.YtjnaikojoemkaaaDoor
open Go.RowKit

abbrev Lx := Int × Int × ByteArray
/-- v is a slice of tokens that reads as l. -/
def RowL (W : World) (v : Value) (l : List Lx) : Prop :=
  (v = .slice none 0 0 ∧ l = []) ∨ ∃ b off cap, v = .slice (some ⟨b, off, none⟩) l.length cap ∧ l.length ≤ cap ∧ b < W.heap.size ∧
    ∀ j x, l[j]? = some x → W.cell? ⟨b, off + j * 3, none⟩ = some (.int .i64 x.1) ∧ W.cell? ⟨b, off + j * 3 + 1, none⟩ = some (.int .i64 x.2.1) ∧ W.cell? ⟨b, off + j * 3 + 2, none⟩ = some (.string x.2.2)
theorem RowL.bel {W W' : World} {v : Value} {l : List Lx} (h : RowL W v l) (hb : Bel W W') : RowL W' v l := by
  rcases h with h | ⟨b, off, cap, h1, h2, h3, h4⟩
  · exact .inl h
  · refine .inr ⟨b, off, cap, h1, h2, Nat.lt_of_lt_of_le h3 hb.size, fun j x hx => ?_⟩
    obtain ⟨g0, g1, g2⟩ := h4 j x hx
    exact ⟨(hb.cell h3).trans g0, (hb.cell h3).trans g1, (hb.cell h3).trans g2⟩
def toLx (x : Int × Nat × ByteArray) : Lx := (x.1, (x.2.1 : Int), x.2.2)
theorem lexCells_at : ∀ (l : List (Int × Nat × ByteArray)) (j : Nat) (x : Int × Nat × ByteArray), l[j]? = some x → (lexCells l)[j * 3]? = some (.int .i64 x.1) ∧ (lexCells l)[j * 3 + 1]? = some (.int .i64 x.2.1) ∧ (lexCells l)[j * 3 + 2]? = some (.string x.2.2)
  | [], j, x, h => by cases h
  | y :: l, 0, x, h => by
    cases h
    exact ⟨rfl, rfl, rfl⟩
  | y :: l, j + 1, x, h => by
    have ih := lexCells_at l j x h
    have e : lexCells (y :: l) = [.int .i64 y.1, .int .i64 y.2.1, .string y.2.2] ++ lexCells l := rfl
    rw [e, show (j + 1) * 3 = j * 3 + 3 from by omega]
    exact ih
theorem own_rowL {W : World} {B : Nat} {v : Value} {l : List (Int × Nat × ByteArray)} (h : W.ownsRow B 28 3 v l.length (lexCells l)) : RowL W v (l.map toLx) := by
  obtain ⟨hl, ⟨rfl, h0⟩ | ⟨g, cap, cur, rfl, hg, hh, hn, _, hsz, ht⟩⟩ := h
  · exact .inl ⟨rfl, by rw [List.eq_nil_of_length_eq_zero h0]; rfl⟩
  · refine .inr ⟨g, 0, cap, by rw [List.length_map], by rw [List.length_map]; omega, (Array.getElem?_eq_some_iff.1 hh).1, fun j x hx => ?_⟩
    rw [List.getElem?_map] at hx
    obtain ⟨y, hy, rfl⟩ := Option.map_eq_some_iff.1 hx
    obtain ⟨g0, g1, g2⟩ := lexCells_at l j y hy
    have hj : j < l.length := (List.getElem?_eq_some_iff.1 hy).1
    have hc : ∀ k u, k < l.length * 3 → (lexCells l)[k]? = some u → W.cell? ⟨g, 0 + k, none⟩ = some u := by
      intro k u hk hu
      rw [← ht, List.getElem?_take, if_pos hk] at hu
      simp only [World.cell?, hh, Nat.zero_add]
      simpa using hu
    exact ⟨hc _ _ (by omega) g0, hc (j * 3 + 1) _ (by omega) g1, hc (j * 3 + 2) _ (by omega) g2⟩

/-- Are two lists of tokens the same? -/
def sameL (p : Bool) : List Lx → List Lx → Bool
  | [], [] => true
  | x :: a, y :: b => (x.1 == y.1 && x.2.2.toList == y.2.2.toList && (!p || x.2.1 == y.2.1)) && sameL p a b
  | _, _ => false
theorem sameL_len (p : Bool) : ∀ a b, a.length ≠ b.length → sameL p a b = false
  | [], [], h => absurd rfl h
  | [], y :: b, _ => rfl
  | x :: a, [], _ => rfl
  | x :: a, y :: b, h => by
    rw [sameL, sameL_len p a b (fun e => h (by simp [e])), Bool.and_false]
theorem sameL_refl (p : Bool) : ∀ a, sameL p a a = true
  | [] => rfl
  | x :: a => by rw [sameL, sameL_refl p a]; simp
theorem sameL_at (p : Bool) (a b : List Lx) (j : Nat) (x y : Lx) (hx : a[j]? = some x) (hy : b[j]? = some y) :
    sameL p (a.drop j) (b.drop j) = ((x.1 == y.1 && x.2.2.toList == y.2.2.toList && (!p || x.2.1 == y.2.1)) && sameL p (a.drop (j + 1)) (b.drop (j + 1))) := by
  obtain ⟨h1, rfl⟩ := List.getElem?_eq_some_iff.1 hx
  obtain ⟨h2, rfl⟩ := List.getElem?_eq_some_iff.1 hy
  rw [List.drop_eq_getElem_cons h1, List.drop_eq_getElem_cons h2, sameL]
theorem rowL_form {W : World} {v : Value} {l : List Lx} (h : RowL W v l) : ∃ a cap, v = .slice a l.length cap ∧ (l = [] ∨ ∃ b off, a = some ⟨b, off, none⟩ ∧ l.length ≤ cap ∧ b < W.heap.size ∧
    ∀ j x, l[j]? = some x → W.cell? ⟨b, off + j * 3, none⟩ = some (.int .i64 x.1) ∧ W.cell? ⟨b, off + j * 3 + 1, none⟩ = some (.int .i64 x.2.1) ∧ W.cell? ⟨b, off + j * 3 + 2, none⟩ = some (.string x.2.2)) := by
  rcases h with ⟨rfl, rfl⟩ | ⟨b, off, cap, rfl, h2, h3, h4⟩
  · exact ⟨none, 0, rfl, .inl rfl⟩
  · exact ⟨_, cap, rfl, .inr ⟨b, off, rfl, h2, h3, h4⟩⟩

set_option maxRecDepth 100000 in
set_option maxHeartbeats 4000000 in
theorem rsame_c (v1 v2 : Value) (a b : List Lx) (p : Bool) (w : World) (h1 : RowL w v1 a) (h2 : RowL w v2 b) (_hla : a.length ≤ 4294967280) (hlb : b.length ≤ 4294967280) :
    Calls Tryd.prog 9 #[v1, v2, .bool p] w (RetBel (.bool (sameL p a b)) w) := by
  obtain ⟨R, hR⟩ : ∃ R, sameL p a b = R := ⟨_, rfl⟩
  rw [hR]
  have HR := Lib.hid hR
  obtain ⟨a1, c1, rfl, hc1⟩ := rowL_form h1
  obtain ⟨a2, c2, rfl, hc2⟩ := rowL_form h2
  by_cases hne : a.length = b.length
  · obtain ⟨n, hn⟩ : ∃ n, b.length = n := ⟨_, rfl⟩
    rw [hn] at hne hlb ⊢
    rw [hne]
    have HNA := Lib.hid hne
    have HNB := Lib.hid hn
    rw [hne] at hc1
    rw [hn] at hc2
    have HC1 := Lib.hid hc1
    have HC2 := Lib.hid hc2
    clear hR hn hne hc1 hc2 h1 h2
    go_enter Tryd.func9, Tryd.ntmps9
    go_wp2_with fail
    go_loopw [7] (fun i wr => ∃ j : Nat, j ≤ n ∧ i = .int .i64 j ∧ Bel w wr ∧ sameL p (a.drop j) (b.drop j) = R) (fun i _ => n - (intOf i).toNat)
    case atStart => exact ⟨0, Nat.zero_le _, rfl, Bel.refl _, HR.out⟩
    case round =>
      obtain ⟨j, hj, rfl, hbel, hs⟩ := hrel
      by_cases hlt : j < n
      · have hlti : (j : Int) < n := by omega
        obtain ⟨x, hx⟩ : ∃ x, a[j]? = some x := ⟨_, List.getElem?_eq_getElem (by have := HNA.out; omega)⟩
        obtain ⟨y, hy⟩ : ∃ y, b[j]? = some y := ⟨_, List.getElem?_eq_getElem (by have := HNB.out; omega)⟩
        have hsa := sameL_at p a b j x y hx hy
        rw [hs] at hsa
        rcases HC1.out with h0 | ⟨b1, o1, rfl, hk1, hb1, hcell1⟩
        · have := HNA.out; rw [h0] at this; simp at this; omega
        rcases HC2.out with h0 | ⟨b2, o2, rfl, hk2, hb2, hcell2⟩
        · have := HNB.out; rw [h0] at this; simp at this; omega
        obtain ⟨f0, f1, f2⟩ := hcell1 j x hx
        obtain ⟨g0, g1, g2⟩ := hcell2 j y hy
        rw [← hbel.cell hb1] at f0 f1 f2
        rw [← hbel.cell hb2] at g0 g1 g2
        obtain ⟨x1, x2, x3⟩ := x
        obtain ⟨y1, y2, y3⟩ := y
        simp only at f0 f1 f2 g0 g1 g2 hsa
        obtain ⟨A, hA⟩ : ∃ A, (x1 == y1) = A := ⟨_, rfl⟩
        obtain ⟨B, hB⟩ : ∃ B, (x3.toList == y3.toList) = B := ⟨_, rfl⟩
        obtain ⟨C, hC⟩ : ∃ C, (x2 == y2) = C := ⟨_, rfl⟩
        have hA2 : (x1 != y1) = !A := by rw [← hA]; rfl
        have hB2 : (x3.toList != y3.toList) = !B := by rw [← hB]; rfl
        have hC2 : (x2 != y2) = !C := by rw [← hC]; rfl
        rw [hA, hB, hC] at hsa
        have HSA := Lib.hid hsa
        clear hsa hs hcell1 hcell2 hx hy
        cases A
        · rw [Bool.false_and, Bool.false_and, Bool.false_and] at HSA
          go_wp2_with fail
          go_quiet (fail)
          go_wp2_with fail
          go_ret
          exact ⟨by rw [HSA.out]; rfl, hbel.to_drewN _⟩
        · cases B
          · rw [Bool.true_and, Bool.false_and, Bool.false_and] at HSA
            go_wp2_with fail
            go_quiet (fail)
            go_wp2_with fail
            go_ret
            exact ⟨by rw [HSA.out]; rfl, hbel.to_drewN _⟩
          · cases p
            · rw [Bool.true_and, Bool.true_and, Bool.not_false, Bool.true_or, Bool.true_and] at HSA
              go_wp2_with fail
              go_quiet (fail)
              go_wp2_with fail
              exact ⟨⟨j + 1, by omega, by go_num, hbel.to_drewN _, HSA.out.symm⟩, by simp [intOf]; omega⟩
            · cases C
              · rw [Bool.true_and, Bool.true_and, Bool.not_true, Bool.false_or, Bool.false_and] at HSA
                go_wp2_with fail
                go_quiet (fail)
                go_wp2_with fail
                go_ret
                exact ⟨by rw [HSA.out]; rfl, hbel.to_drewN _⟩
              · rw [Bool.true_and, Bool.true_and, Bool.not_true, Bool.false_or, Bool.true_and] at HSA
                go_wp2_with fail
                go_quiet (fail)
                go_wp2_with fail
                exact ⟨⟨j + 1, by omega, by go_num, hbel.to_drewN _, HSA.out.symm⟩, by simp [intOf]; omega⟩
      · obtain rfl : j = n := by omega
        rw [List.drop_of_length_le (by rw [HNA.out]; exact Nat.le_refl _), List.drop_of_length_le (by rw [HNB.out]; exact Nat.le_refl _)] at hs
        subst hs
        go_wp2_with fail
        go_ret
        exact ⟨rfl, hbel⟩
  · have hf : R = false := by rw [← hR]; exact sameL_len p a b hne
    subst hf
    have hne1 : ((a.length : Int) == b.length) = false := by simp; omega
    have hne2 : ((a.length : Int) != b.length) = true := by simp; omega
    clear hR hc1 hc2 h1 h2 HR
    go_enter Tryd.func9, Tryd.ntmps9
    go_wp2_with fail
    go_ret
    exact ⟨rfl, Bel.refl _⟩
end Go.Proofs.YtjnaikojoemkaaaDoor
