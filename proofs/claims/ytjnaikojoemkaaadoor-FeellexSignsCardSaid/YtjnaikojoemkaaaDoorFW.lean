/-
  feellex: the walk of the law's alive.
-/
import Derived.Test.YtjnaikojoemkaaaDoorFV
namespace Go.Proofs.YtjnaikojoemkaaaDoor
open Go.RowKit

theorem lex_row (s : ByteArray) (hs : s.size ≤ 4294967280) (w : World) (hE : Env w) (hw : SignsAt w) (L : List Lx) (n e : Nat) (h : (((lexS s).1.map toLx), (lexS s).2.1, (lexS s).2.2) = (L, n, e)) :
    Calls Tryd.prog 8 #[.string s] w fun x w' => ∃ v, x = .returned (.tuple #[v, .int .i64 n, .int .i64 e]) ∧ RowL w' v L ∧ Bel w w' := by
  injection h with h1 h2
  injection h2 with h2 h3
  refine (lex_c s hs w hE hw).mono ?_
  rintro x w' ⟨hb, v, rfl, ho⟩
  have := own_rowL ho
  rw [h1] at this
  exact ⟨v, by rw [h2, h3], this, hb⟩
def t1 : ByteArray := ⟨#[110, 101, 116, 32, 112, 114, 105, 99, 101, 42, 49, 46, 53]⟩
def t2 : ByteArray := ⟨#[91, 49, 46, 46, 53, 93]⟩
def t3 : ByteArray := ⟨#[34, 97]⟩
def t4 : ByteArray := ⟨#[97, 32, 63, 32, 98]⟩
def L1 : List Lx := [(0, 0, ⟨#[110, 101, 116]⟩), (0, 4, ⟨#[112, 114, 105, 99, 101]⟩), (4, 9, ⟨#[42]⟩), (2, 10, ⟨#[49, 46, 53]⟩), (5, 13, ⟨#[]⟩)]
def L2 : List Lx := [(4, 0, ⟨#[91]⟩), (2, 1, ⟨#[49]⟩), (4, 2, ⟨#[46, 46]⟩), (2, 4, ⟨#[53]⟩), (4, 5, ⟨#[93]⟩), (5, 6, ⟨#[]⟩)]
def W1 : List Lx := [(0, 0, ⟨#[110, 101, 116]⟩), (0, 0, ⟨#[112, 114, 105, 99, 101]⟩), (4, 0, ⟨#[42]⟩), (2, 0, ⟨#[49, 46, 53]⟩), (5, 0, ⟨#[]⟩)]
set_option maxRecDepth 100000 in
theorem ev1 : ((lexS t1).1.map toLx, (lexS t1).2.1, (lexS t1).2.2) = (L1, 13, 0) := by decide +kernel
set_option maxRecDepth 100000 in
theorem ev2 : ((lexS t2).1.map toLx, (lexS t2).2.1, (lexS t2).2.2) = (L2, 6, 0) := by decide +kernel
set_option maxRecDepth 100000 in
theorem ev3 : ((lexS t3).1.map toLx, (lexS t3).2.1, (lexS t3).2.2) = ([], 2, 10) := by decide +kernel
set_option maxRecDepth 100000 in
theorem ev4 : ((lexS t4).1.map toLx, (lexS t4).2.1, (lexS t4).2.2) = ([], 2, 11) := by decide +kernel
theorem ev5 : sameL false L1 W1 = true := by decide +kernel

def lxCells (l : List Lx) : List Value := l.flatMap fun x => [.int .i64 x.1, .int .i64 x.2.1, .string x.2.2]
theorem lxCells_at : ∀ (l : List Lx) (j : Nat) (x : Lx), l[j]? = some x → (lxCells l)[j * 3]? = some (.int .i64 x.1) ∧ (lxCells l)[j * 3 + 1]? = some (.int .i64 x.2.1) ∧ (lxCells l)[j * 3 + 2]? = some (.string x.2.2)
  | [], j, x, h => by cases h
  | y :: l, 0, x, h => by
    cases h
    exact ⟨rfl, rfl, rfl⟩
  | y :: l, j + 1, x, h => by
    have ih := lxCells_at l j x h
    have e : lxCells (y :: l) = [.int .i64 y.1, .int .i64 y.2.1, .string y.2.2] ++ lxCells l := rfl
    rw [e, show (j + 1) * 3 = j * 3 + 3 from by omega]
    exact ih
theorem rowL_new (w : World) (l : List Lx) (t : TypeId) : RowL (w.alloc (.cells (lxCells l).toArray t)) (.slice (some ⟨w.heap.size, 0, none⟩) l.length l.length) l := by
  have h0 : (w.alloc (.cells (lxCells l).toArray t)).heap[w.heap.size]? = some (.cells (lxCells l).toArray t (0, 0)) := World.alloc_heap_new _ _
  refine .inr ⟨w.heap.size, 0, l.length, rfl, Nat.le_refl _, by simp, fun j x hx => ?_⟩
  obtain ⟨g0, g1, g2⟩ := lxCells_at l j x hx
  simp only [World.cell?, h0, Nat.zero_add]
  exact ⟨by simpa using g0, by simpa using g1, by simpa using g2⟩

set_option maxRecDepth 100000 in
set_option maxHeartbeats 4000000 in
theorem alive_c (w : World) (hE : Env w) (hw : SignsAt w) : Calls Tryd.prog 7 #[] w (RetBel (.bool true) w) := by
  have H1 : Hid (∀ w1, Bel w w1 → Calls Tryd.prog 8 #[.string ⟨#[110, 101, 116, 32, 112, 114, 105, 99, 101, 42, 49, 46, 53]⟩] w1 fun x w' => ∃ v, x = .returned (.tuple #[v, .int .i64 13, .int .i64 0]) ∧ RowL w' v L1 ∧ Bel w1 w') := Lib.hid fun w1 hb => lex_row t1 (by decide) w1 (hE.bel hb) (signs_bel hw hb) _ _ _ ev1
  have H2 : Hid (∀ w1, Bel w w1 → Calls Tryd.prog 8 #[.string ⟨#[91, 49, 46, 46, 53, 93]⟩] w1 fun x w' => ∃ v, x = .returned (.tuple #[v, .int .i64 6, .int .i64 0]) ∧ RowL w' v L2 ∧ Bel w1 w') := Lib.hid fun w1 hb => lex_row t2 (by decide) w1 (hE.bel hb) (signs_bel hw hb) _ _ _ ev2
  have H3 : Hid (∀ w1, Bel w w1 → Calls Tryd.prog 8 #[.string ⟨#[34, 97]⟩] w1 fun x w' => ∃ v, x = .returned (.tuple #[v, .int .i64 2, .int .i64 10]) ∧ RowL w' v [] ∧ Bel w1 w') := Lib.hid fun w1 hb => lex_row t3 (by decide) w1 (hE.bel hb) (signs_bel hw hb) _ _ _ ev3
  have H4 : Hid (∀ w1, Bel w w1 → Calls Tryd.prog 8 #[.string ⟨#[97, 32, 63, 32, 98]⟩] w1 fun x w' => ∃ v, x = .returned (.tuple #[v, .int .i64 2, .int .i64 11]) ∧ RowL w' v [] ∧ Bel w1 w') := Lib.hid fun w1 hb => lex_row t4 (by decide) w1 (hE.bel hb) (signs_bel hw hb) _ _ _ ev4
  clear hE hw
  go_enter Tryd.func7, Tryd.ntmps7
  go_wp2_with fail
  refine (H1.out _ (Bel.refl _)).mono ?_
  rintro e w1 ⟨v1, rfl, r1, b1⟩
  go_wp2_with fail
  refine (H2.out _ b1).mono ?_
  rintro e w2 ⟨v2, rfl, r2, b2⟩
  have b12 := b1.trans b2
  go_wp2_with fail
  refine (H3.out _ b12).mono ?_
  rintro e w3 ⟨v3, rfl, r3, b3⟩
  have b13 := b12.trans b3
  go_wp2_with fail
  refine (H4.out _ b13).mono ?_
  rintro e w4 ⟨v4, rfl, r4, b4⟩
  have b14 := b13.trans b4
  have hrn := rowL_new w4 W1 28
  have r1' := ((r1.bel b2).bel b3).bel b4
  have HSM : Hid (Calls Tryd.prog 9 #[v1, .slice (some ⟨w4.heap.size, 0, none⟩) 5 5, .bool false] (w4.alloc (.cells (lxCells W1).toArray 28)) (RetBel (.bool true) (w4.alloc (.cells (lxCells W1).toArray 28)))) := Lib.hid (by
    have := rsame_c v1 _ L1 W1 false _ (r1'.bel (Bel.alloc _ _)) hrn (by decide) (by decide)
    rwa [ev5] at this)
  obtain ⟨m, c2, hm, h2⟩ := rowL_form r2
  rw [show L2.length = 6 from rfl] at hm h2
  subst hm
  rcases h2 with h2 | ⟨g, off, rfl, hk, hlt, hc⟩
  · cases h2
  obtain ⟨_, _, q2⟩ := hc 2 _ rfl
  have q3 := (((b3.trans b4).cell hlt).trans q2)
  have HQ := Lib.hid q3
  clear hc q2 q3 r1 r1' r2 r3 r4 hrn H1 H2 H3 H4
  go_wp2_with fail
  refine (HSM.out).mono ?_
  rintro e w5 ⟨rfl, b5⟩
  have q5 : w5.cell? ⟨g, off + 2 * 3 + 2, none⟩ = some (.string ⟨#[46, 46]⟩) := Bel.keep ((Bel.alloc _ _).trans b5) HQ.out
  go_wp2_with fail
  go_ret
  exact ⟨rfl, b14.trans ((Bel.alloc _ _).trans b5)⟩
end Go.Proofs.YtjnaikojoemkaaaDoor
