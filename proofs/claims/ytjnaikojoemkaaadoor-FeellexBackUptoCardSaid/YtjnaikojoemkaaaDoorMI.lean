/-
  feellex: the walk of the document's Lex.
  feellex: rows of tokens; the walk of the document's Same.
  feellex: the walk of the law's alive.
-/
import Derived.Test.YtjnaikojoemkaaaDoorMH
import Derived.Test.YtjnaikojoemkaaaDoorMB
import Derived.BigQuiet
import Derived.Deep.QuietTactic
namespace Go.Proofs.YtjnaikojoemkaaaDoor
open Go.RowKit

theorem tail_head (s : ByteArray) (i n : Nat) (_h : i + n ≤ s.size) : (s.extract i s.size).extract 0 n = s.extract i (i + n) := by
  apply ByteArray.ext; apply Array.ext'
  have h1 := extract_piece (s.extract i s.size) 0 n
  rw [Nat.zero_add] at h1
  rw [h1, extract_piece, tail_list, List.drop_zero]
theorem get_zero (s : ByteArray) (i : Nat) (h : i < s.size) : (s.extract i s.size).get! 0 = s.get! i := by rw [get_tail s i 0 (by omega), Nat.add_zero]

theorem cells3_at (w : World) (n : Nat) (hn : w.heap.size = n) (a b c : Value) (t : TypeId) : ∀ j u, [a, b, c][j]? = some u → (w.alloc (.cells #[a, b, c] t)).cell? ((⟨n, 0, none⟩ : Addr).add j) = some u := by
  subst hn
  exact cells3_new0 w a b c t
theorem sign_pre (x : ByteArray) : signS x = x.extract 0 (signS x).size := by
  have : ∀ l : List (List UInt8), (signIn x l).isPrefixOf x.data.toList = true := by
    intro l
    induction l with
    | nil => rfl
    | cons y l ih =>
      unfold signIn
      split
      · rename_i h; exact h
      · exact ih
  have h1 := List.isPrefixOf_iff_prefix.1 (this signsL)
  apply ByteArray.ext; apply Array.ext'
  have h2 := extract_piece x 0 (signS x).size
  rw [Nat.zero_add] at h2
  rw [h2, List.drop_zero]
  exact List.prefix_iff_eq_take.1 h1

end Go.Proofs.YtjnaikojoemkaaaDoor

namespace Go.Proofs.YtjnaikojoemkaaaDoor
open Go.RowKit

abbrev Lx := Int × Int × ByteArray
/-- v is a slice of tokens that reads as l. -/
def RowL (W : World) (v : Value) (l : List Lx) : Prop :=
  (v = .slice none 0 0 ∧ l = []) ∨ ∃ b off cap, v = .slice (some ⟨b, off, none⟩) l.length cap ∧ l.length ≤ cap ∧ b < W.heap.size ∧
    ∀ j x, l[j]? = some x → W.cell? ⟨b, off + j * 3, none⟩ = some (.int .i64 x.1) ∧ W.cell? ⟨b, off + j * 3 + 1, none⟩ = some (.int .i64 x.2.1) ∧ W.cell? ⟨b, off + j * 3 + 2, none⟩ = some (.string x.2.2)
theorem RowL.bel {W W' : World} {v : Value} {l : List Lx} (h : RowL W v l) (hb : Bel W W') : RowL W' v l := by
  rcases h with h | ⟨b, off, cap, h1, h2, h3, h4⟩
  · exact .inl h
  · refine .inr ⟨b, off, cap, h1, h2, Nat.lt_of_lt_of_le h3 hb.size, fun j x hx => ?_⟩
    obtain ⟨g0, g1, g2⟩ := h4 j x hx
    exact ⟨(hb.cell h3).trans g0, (hb.cell h3).trans g1, (hb.cell h3).trans g2⟩
def toLx (x : Int × Nat × ByteArray) : Lx := (x.1, (x.2.1 : Int), x.2.2)
theorem lexCells_at : ∀ (l : List (Int × Nat × ByteArray)) (j : Nat) (x : Int × Nat × ByteArray), l[j]? = some x → (lexCells l)[j * 3]? = some (.int .i64 x.1) ∧ (lexCells l)[j * 3 + 1]? = some (.int .i64 x.2.1) ∧ (lexCells l)[j * 3 + 2]? = some (.string x.2.2)
  | [], j, x, h => by cases h
  | y :: l, 0, x, h => by
    cases h
    exact ⟨rfl, rfl, rfl⟩
  | y :: l, j + 1, x, h => by
    have ih := lexCells_at l j x h
    have e : lexCells (y :: l) = [.int .i64 y.1, .int .i64 y.2.1, .string y.2.2] ++ lexCells l := rfl
    rw [e, show (j + 1) * 3 = j * 3 + 3 from by omega]
    exact ih
theorem own_rowL {W : World} {B : Nat} {v : Value} {l : List (Int × Nat × ByteArray)} (h : W.ownsRow B 28 3 v l.length (lexCells l)) : RowL W v (l.map toLx) := by
  obtain ⟨hl, ⟨rfl, h0⟩ | ⟨g, cap, cur, rfl, hg, hh, hn, _, hsz, ht⟩⟩ := h
  · exact .inl ⟨rfl, by rw [List.eq_nil_of_length_eq_zero h0]; rfl⟩
  · refine .inr ⟨g, 0, cap, by rw [List.length_map], by rw [List.length_map]; omega, (Array.getElem?_eq_some_iff.1 hh).1, fun j x hx => ?_⟩
    rw [List.getElem?_map] at hx
    obtain ⟨y, hy, rfl⟩ := Option.map_eq_some_iff.1 hx
    obtain ⟨g0, g1, g2⟩ := lexCells_at l j y hy
    have hj : j < l.length := (List.getElem?_eq_some_iff.1 hy).1
    have hc : ∀ k u, k < l.length * 3 → (lexCells l)[k]? = some u → W.cell? ⟨g, 0 + k, none⟩ = some u := by
      intro k u hk hu
      rw [← ht, List.getElem?_take, if_pos hk] at hu
      simp only [World.cell?, hh, Nat.zero_add]
      simpa using hu
    exact ⟨hc _ _ (by omega) g0, hc (j * 3 + 1) _ (by omega) g1, hc (j * 3 + 2) _ (by omega) g2⟩

/-- Are two lists of tokens the same? -/
def sameL (p : Bool) : List Lx → List Lx → Bool
  | [], [] => true
  | x :: a, y :: b => (x.1 == y.1 && x.2.2.toList == y.2.2.toList && (!p || x.2.1 == y.2.1)) && sameL p a b
  | _, _ => false
theorem sameL_len (p : Bool) : ∀ a b, a.length ≠ b.length → sameL p a b = false
  | [], [], h => absurd rfl h
  | [], y :: b, _ => rfl
  | x :: a, [], _ => rfl
  | x :: a, y :: b, h => by
    rw [sameL, sameL_len p a b (fun e => h (by simp [e])), Bool.and_false]
theorem sameL_refl (p : Bool) : ∀ a, sameL p a a = true
  | [] => rfl
  | x :: a => by rw [sameL, sameL_refl p a]; simp
theorem sameL_at (p : Bool) (a b : List Lx) (j : Nat) (x y : Lx) (hx : a[j]? = some x) (hy : b[j]? = some y) :
    sameL p (a.drop j) (b.drop j) = ((x.1 == y.1 && x.2.2.toList == y.2.2.toList && (!p || x.2.1 == y.2.1)) && sameL p (a.drop (j + 1)) (b.drop (j + 1))) := by
  obtain ⟨h1, rfl⟩ := List.getElem?_eq_some_iff.1 hx
  obtain ⟨h2, rfl⟩ := List.getElem?_eq_some_iff.1 hy
  rw [List.drop_eq_getElem_cons h1, List.drop_eq_getElem_cons h2, sameL]
theorem rowL_form {W : World} {v : Value} {l : List Lx} (h : RowL W v l) : ∃ a cap, v = .slice a l.length cap ∧ (l = [] ∨ ∃ b off, a = some ⟨b, off, none⟩ ∧ l.length ≤ cap ∧ b < W.heap.size ∧
    ∀ j x, l[j]? = some x → W.cell? ⟨b, off + j * 3, none⟩ = some (.int .i64 x.1) ∧ W.cell? ⟨b, off + j * 3 + 1, none⟩ = some (.int .i64 x.2.1) ∧ W.cell? ⟨b, off + j * 3 + 2, none⟩ = some (.string x.2.2)) := by
  rcases h with ⟨rfl, rfl⟩ | ⟨b, off, cap, rfl, h2, h3, h4⟩
  · exact ⟨none, 0, rfl, .inl rfl⟩
  · exact ⟨_, cap, rfl, .inr ⟨b, off, rfl, h2, h3, h4⟩⟩

set_option maxRecDepth 100000 in
set_option maxHeartbeats 4000000 in
theorem rsame_c (v1 v2 : Value) (a b : List Lx) (p : Bool) (w : World) (h1 : RowL w v1 a) (h2 : RowL w v2 b) (_hla : a.length ≤ 4294967280) (hlb : b.length ≤ 4294967280) :
    Calls Tryd.prog 9 #[v1, v2, .bool p] w (RetBel (.bool (sameL p a b)) w) := by
  obtain ⟨R, hR⟩ : ∃ R, sameL p a b = R := ⟨_, rfl⟩
  rw [hR]
  have HR := Lib.hid hR
  obtain ⟨a1, c1, rfl, hc1⟩ := rowL_form h1
  obtain ⟨a2, c2, rfl, hc2⟩ := rowL_form h2
  by_cases hne : a.length = b.length
  · obtain ⟨n, hn⟩ : ∃ n, b.length = n := ⟨_, rfl⟩
    rw [hn] at hne hlb ⊢
    rw [hne]
    have HNA := Lib.hid hne
    have HNB := Lib.hid hn
    rw [hne] at hc1
    rw [hn] at hc2
    have HC1 := Lib.hid hc1
    have HC2 := Lib.hid hc2
    clear hR hn hne hc1 hc2 h1 h2
    go_enter Tryd.func9, Tryd.ntmps9
    go_wp2_with fail
    go_loopw [7] (fun i wr => ∃ j : Nat, j ≤ n ∧ i = .int .i64 j ∧ Bel w wr ∧ sameL p (a.drop j) (b.drop j) = R) (fun i _ => n - (intOf i).toNat)
    case atStart => exact ⟨0, Nat.zero_le _, rfl, Bel.refl _, HR.out⟩
    case round =>
      obtain ⟨j, hj, rfl, hbel, hs⟩ := hrel
      by_cases hlt : j < n
      · have hlti : (j : Int) < n := by omega
        obtain ⟨x, hx⟩ : ∃ x, a[j]? = some x := ⟨_, List.getElem?_eq_getElem (by have := HNA.out; omega)⟩
        obtain ⟨y, hy⟩ : ∃ y, b[j]? = some y := ⟨_, List.getElem?_eq_getElem (by have := HNB.out; omega)⟩
        have hsa := sameL_at p a b j x y hx hy
        rw [hs] at hsa
        rcases HC1.out with h0 | ⟨b1, o1, rfl, hk1, hb1, hcell1⟩
        · have := HNA.out; rw [h0] at this; simp at this; omega
        rcases HC2.out with h0 | ⟨b2, o2, rfl, hk2, hb2, hcell2⟩
        · have := HNB.out; rw [h0] at this; simp at this; omega
        obtain ⟨f0, f1, f2⟩ := hcell1 j x hx
        obtain ⟨g0, g1, g2⟩ := hcell2 j y hy
        rw [← hbel.cell hb1] at f0 f1 f2
        rw [← hbel.cell hb2] at g0 g1 g2
        obtain ⟨x1, x2, x3⟩ := x
        obtain ⟨y1, y2, y3⟩ := y
        simp only at f0 f1 f2 g0 g1 g2 hsa
        obtain ⟨A, hA⟩ : ∃ A, (x1 == y1) = A := ⟨_, rfl⟩
        obtain ⟨B, hB⟩ : ∃ B, (x3.toList == y3.toList) = B := ⟨_, rfl⟩
        obtain ⟨C, hC⟩ : ∃ C, (x2 == y2) = C := ⟨_, rfl⟩
        have hA2 : (x1 != y1) = !A := by rw [← hA]; rfl
        have hB2 : (x3.toList != y3.toList) = !B := by rw [← hB]; rfl
        have hC2 : (x2 != y2) = !C := by rw [← hC]; rfl
        rw [hA, hB, hC] at hsa
        have HSA := Lib.hid hsa
        clear hsa hs hcell1 hcell2 hx hy
        cases A
        · rw [Bool.false_and, Bool.false_and, Bool.false_and] at HSA
          go_wp2_with fail
          go_quiet (fail)
          go_wp2_with fail
          go_ret
          exact ⟨by rw [HSA.out]; rfl, hbel.to_drewN _⟩
        · cases B
          · rw [Bool.true_and, Bool.false_and, Bool.false_and] at HSA
            go_wp2_with fail
            go_quiet (fail)
            go_wp2_with fail
            go_ret
            exact ⟨by rw [HSA.out]; rfl, hbel.to_drewN _⟩
          · cases p
            · rw [Bool.true_and, Bool.true_and, Bool.not_false, Bool.true_or, Bool.true_and] at HSA
              go_wp2_with fail
              go_quiet (fail)
              go_wp2_with fail
              exact ⟨⟨j + 1, by omega, by go_num, hbel.to_drewN _, HSA.out.symm⟩, by simp [intOf]; omega⟩
            · cases C
              · rw [Bool.true_and, Bool.true_and, Bool.not_true, Bool.false_or, Bool.false_and] at HSA
                go_wp2_with fail
                go_quiet (fail)
                go_wp2_with fail
                go_ret
                exact ⟨by rw [HSA.out]; rfl, hbel.to_drewN _⟩
              · rw [Bool.true_and, Bool.true_and, Bool.not_true, Bool.false_or, Bool.true_and] at HSA
                go_wp2_with fail
                go_quiet (fail)
                go_wp2_with fail
                exact ⟨⟨j + 1, by omega, by go_num, hbel.to_drewN _, HSA.out.symm⟩, by simp [intOf]; omega⟩
      · obtain rfl : j = n := by omega
        rw [List.drop_of_length_le (by rw [HNA.out]; exact Nat.le_refl _), List.drop_of_length_le (by rw [HNB.out]; exact Nat.le_refl _)] at hs
        subst hs
        go_wp2_with fail
        go_ret
        exact ⟨rfl, hbel⟩
  · have hf : R = false := by rw [← hR]; exact sameL_len p a b hne
    subst hf
    have hne1 : ((a.length : Int) == b.length) = false := by simp; omega
    have hne2 : ((a.length : Int) != b.length) = true := by simp; omega
    clear hR hc1 hc2 h1 h2 HR
    go_enter Tryd.func9, Tryd.ntmps9
    go_wp2_with fail
    go_ret
    exact ⟨rfl, Bel.refl _⟩
end Go.Proofs.YtjnaikojoemkaaaDoor

namespace Go.Proofs.YtjnaikojoemkaaaDoor
open Go.RowKit

theorem lex_row (s : ByteArray) (hs : s.size ≤ 4294967280) (w : World) (hE : Env w) (hw : SignsAt w) (L : List Lx) (n e : Nat) (h : (((lexS s).1.map toLx), (lexS s).2.1, (lexS s).2.2) = (L, n, e)) :
    Calls Tryd.prog 8 #[.string s] w fun x w' => ∃ v, x = .returned (.tuple #[v, .int .i64 n, .int .i64 e]) ∧ RowL w' v L ∧ Bel w w' := by
  injection h with h1 h2
  injection h2 with h2 h3
  refine (lex_c s hs w hE hw).mono ?_
  rintro x w' ⟨hb, v, rfl, ho⟩
  have := own_rowL ho
  rw [h1] at this
  exact ⟨v, by rw [h2, h3], this, hb⟩
def t1 : ByteArray := ⟨#[110, 101, 116, 32, 112, 114, 105, 99, 101, 42, 49, 46, 53]⟩
def t2 : ByteArray := ⟨#[91, 49, 46, 46, 53, 93]⟩
def t3 : ByteArray := ⟨#[34, 97]⟩
def t4 : ByteArray := ⟨#[97, 32, 63, 32, 98]⟩
def L1 : List Lx := [(0, 0, ⟨#[110, 101, 116]⟩), (0, 4, ⟨#[112, 114, 105, 99, 101]⟩), (4, 9, ⟨#[42]⟩), (2, 10, ⟨#[49, 46, 53]⟩), (5, 13, ⟨#[]⟩)]
def L2 : List Lx := [(4, 0, ⟨#[91]⟩), (2, 1, ⟨#[49]⟩), (4, 2, ⟨#[46, 46]⟩), (2, 4, ⟨#[53]⟩), (4, 5, ⟨#[93]⟩), (5, 6, ⟨#[]⟩)]
def W1 : List Lx := [(0, 0, ⟨#[110, 101, 116]⟩), (0, 0, ⟨#[112, 114, 105, 99, 101]⟩), (4, 0, ⟨#[42]⟩), (2, 0, ⟨#[49, 46, 53]⟩), (5, 0, ⟨#[]⟩)]
set_option maxRecDepth 100000 in
theorem ev1 : ((lexS t1).1.map toLx, (lexS t1).2.1, (lexS t1).2.2) = (L1, 13, 0) := by decide +kernel
set_option maxRecDepth 100000 in
theorem ev2 : ((lexS t2).1.map toLx, (lexS t2).2.1, (lexS t2).2.2) = (L2, 6, 0) := by decide +kernel
set_option maxRecDepth 100000 in
theorem ev3 : ((lexS t3).1.map toLx, (lexS t3).2.1, (lexS t3).2.2) = ([], 2, 10) := by decide +kernel
set_option maxRecDepth 100000 in
theorem ev4 : ((lexS t4).1.map toLx, (lexS t4).2.1, (lexS t4).2.2) = ([], 2, 11) := by decide +kernel
theorem ev5 : sameL false L1 W1 = true := by decide +kernel

def lxCells (l : List Lx) : List Value := l.flatMap fun x => [.int .i64 x.1, .int .i64 x.2.1, .string x.2.2]
theorem lxCells_at : ∀ (l : List Lx) (j : Nat) (x : Lx), l[j]? = some x → (lxCells l)[j * 3]? = some (.int .i64 x.1) ∧ (lxCells l)[j * 3 + 1]? = some (.int .i64 x.2.1) ∧ (lxCells l)[j * 3 + 2]? = some (.string x.2.2)
  | [], j, x, h => by cases h
  | y :: l, 0, x, h => by
    cases h
    exact ⟨rfl, rfl, rfl⟩
  | y :: l, j + 1, x, h => by
    have ih := lxCells_at l j x h
    have e : lxCells (y :: l) = [.int .i64 y.1, .int .i64 y.2.1, .string y.2.2] ++ lxCells l := rfl
    rw [e, show (j + 1) * 3 = j * 3 + 3 from by omega]
    exact ih
theorem rowL_new (w : World) (l : List Lx) (t : TypeId) : RowL (w.alloc (.cells (lxCells l).toArray t)) (.slice (some ⟨w.heap.size, 0, none⟩) l.length l.length) l := by
  have h0 : (w.alloc (.cells (lxCells l).toArray t)).heap[w.heap.size]? = some (.cells (lxCells l).toArray t (0, 0)) := World.alloc_heap_new _ _
  refine .inr ⟨w.heap.size, 0, l.length, rfl, Nat.le_refl _, by simp, fun j x hx => ?_⟩
  obtain ⟨g0, g1, g2⟩ := lxCells_at l j x hx
  simp only [World.cell?, h0, Nat.zero_add]
  exact ⟨by simpa using g0, by simpa using g1, by simpa using g2⟩

set_option maxRecDepth 100000 in
set_option maxHeartbeats 4000000 in
theorem alive_c (w : World) (hE : Env w) (hw : SignsAt w) : Calls Tryd.prog 7 #[] w (RetBel (.bool true) w) := by
  have H1 : Hid (∀ w1, Bel w w1 → Calls Tryd.prog 8 #[.string ⟨#[110, 101, 116, 32, 112, 114, 105, 99, 101, 42, 49, 46, 53]⟩] w1 fun x w' => ∃ v, x = .returned (.tuple #[v, .int .i64 13, .int .i64 0]) ∧ RowL w' v L1 ∧ Bel w1 w') := Lib.hid fun w1 hb => lex_row t1 (by decide) w1 (hE.bel hb) (signs_bel hw hb) _ _ _ ev1
  have H2 : Hid (∀ w1, Bel w w1 → Calls Tryd.prog 8 #[.string ⟨#[91, 49, 46, 46, 53, 93]⟩] w1 fun x w' => ∃ v, x = .returned (.tuple #[v, .int .i64 6, .int .i64 0]) ∧ RowL w' v L2 ∧ Bel w1 w') := Lib.hid fun w1 hb => lex_row t2 (by decide) w1 (hE.bel hb) (signs_bel hw hb) _ _ _ ev2
  have H3 : Hid (∀ w1, Bel w w1 → Calls Tryd.prog 8 #[.string ⟨#[34, 97]⟩] w1 fun x w' => ∃ v, x = .returned (.tuple #[v, .int .i64 2, .int .i64 10]) ∧ RowL w' v [] ∧ Bel w1 w') := Lib.hid fun w1 hb => lex_row t3 (by decide) w1 (hE.bel hb) (signs_bel hw hb) _ _ _ ev3
  have H4 : Hid (∀ w1, Bel w w1 → Calls Tryd.prog 8 #[.string ⟨#[97, 32, 63, 32, 98]⟩] w1 fun x w' => ∃ v, x = .returned (.tuple #[v, .int .i64 2, .int .i64 11]) ∧ RowL w' v [] ∧ Bel w1 w') := Lib.hid fun w1 hb => lex_row t4 (by decide) w1 (hE.bel hb) (signs_bel hw hb) _ _ _ ev4
  clear hE hw
  go_enter Tryd.func7, Tryd.ntmps7
  go_wp2_with fail
  refine (H1.out _ (Bel.refl _)).mono ?_
  rintro e w1 ⟨v1, rfl, r1, b1⟩
  go_wp2_with fail
  refine (H2.out _ b1).mono ?_
  rintro e w2 ⟨v2, rfl, r2, b2⟩
  have b12 := b1.trans b2
  go_wp2_with fail
  refine (H3.out _ b12).mono ?_
  rintro e w3 ⟨v3, rfl, r3, b3⟩
  have b13 := b12.trans b3
  go_wp2_with fail
  refine (H4.out _ b13).mono ?_
  rintro e w4 ⟨v4, rfl, r4, b4⟩
  have b14 := b13.trans b4
  have hrn := rowL_new w4 W1 28
  have r1' := ((r1.bel b2).bel b3).bel b4
  have HSM : Hid (Calls Tryd.prog 9 #[v1, .slice (some ⟨w4.heap.size, 0, none⟩) 5 5, .bool false] (w4.alloc (.cells (lxCells W1).toArray 28)) (RetBel (.bool true) (w4.alloc (.cells (lxCells W1).toArray 28)))) := Lib.hid (by
    have := rsame_c v1 _ L1 W1 false _ (r1'.bel (Bel.alloc _ _)) hrn (by decide) (by decide)
    rwa [ev5] at this)
  obtain ⟨m, c2, hm, h2⟩ := rowL_form r2
  rw [show L2.length = 6 from rfl] at hm h2
  subst hm
  rcases h2 with h2 | ⟨g, off, rfl, hk, hlt, hc⟩
  · cases h2
  obtain ⟨_, _, q2⟩ := hc 2 _ rfl
  have q3 := (((b3.trans b4).cell hlt).trans q2)
  have HQ := Lib.hid q3
  clear hc q2 q3 r1 r1' r2 r3 r4 hrn H1 H2 H3 H4
  go_wp2_with fail
  refine (HSM.out).mono ?_
  rintro e w5 ⟨rfl, b5⟩
  have q5 : w5.cell? ⟨g, off + 2 * 3 + 2, none⟩ = some (.string ⟨#[46, 46]⟩) := Bel.keep ((Bel.alloc _ _).trans b5) HQ.out
  go_wp2_with fail
  go_ret
  exact ⟨rfl, b14.trans ((Bel.alloc _ _).trans b5)⟩
end Go.Proofs.YtjnaikojoemkaaaDoor
