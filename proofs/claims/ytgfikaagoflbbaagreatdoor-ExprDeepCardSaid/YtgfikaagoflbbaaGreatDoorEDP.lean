/-
  Trees in a block that is written again and again; the trees that the law ExprDeep makes.
-/
import Derived.Test.YtgfikaagoflbbaaGreatDoorETP
import Derived.Test.YtgfikaagoflbbaaGreatDoorEHW
namespace Go.Proofs.YtgfikaagoflbbaaGreatDoor
open Go.RowKit

/-! Cells that are kept. -/
theorem RowE.keep {W W' : World} {v : Value} {xs : List Value} (h : RowE W v xs) (hs : W.heap.size ≤ W'.heap.size) (hk : ∀ b o v, W.cell? ⟨b, o, none⟩ = some v → W'.cell? ⟨b, o, none⟩ = some v) : RowE W' v xs := by
  obtain ⟨a, cap, h1, h2, h3⟩ := h
  exact ⟨a, cap, h1, h2, h3.imp id fun ⟨b, off, h4, h5, h6⟩ => ⟨b, off, h4, Nat.lt_of_lt_of_le h5 hs, fun j hj => hk _ _ _ (h6 j hj)⟩⟩
mutual
theorem ExAt.keep {W W' : World} (hs : W.heap.size ≤ W'.heap.size) (hk : ∀ b o v, W.cell? ⟨b, o, none⟩ = some v → W'.cell? ⟨b, o, none⟩ = some v) : ∀ (e : Ex) {vn vl : Value}, ExAt W e vn vl → ExAt W' e vn vl
  | .mk k s ns l, vn, vl, h => by
    unfold ExAt at h ⊢
    obtain ⟨h1, hkw, a, cap, h2, h3, h4⟩ := h
    exact ⟨h1.keep hs hk, hkw, a, cap, h2, h3, h4.imp id fun ⟨b, off, h5, h6, h7⟩ => ⟨b, off, h5, Nat.lt_of_lt_of_le h6 hs, ExsAt.keep hs hk l h7⟩⟩
theorem ExsAt.keep {W W' : World} (hs : W.heap.size ≤ W'.heap.size) (hk : ∀ b o v, W.cell? ⟨b, o, none⟩ = some v → W'.cell? ⟨b, o, none⟩ = some v) {b : Nat} : ∀ (l : List Ex) {off : Nat}, ExsAt W b off l → ExsAt W' b off l
  | [], _, _ => by unfold ExsAt; trivial
  | .mk k s ns l :: r, off, h => by
    unfold ExsAt at h ⊢
    obtain ⟨⟨vn, vl, c0, c1, c2, c3, h1⟩, h2⟩ := h
    exact ⟨⟨vn, vl, hk _ _ _ c0, hk _ _ _ c1, hk _ _ _ c2, hk _ _ _ c3, ExAt.keep hs hk _ h1⟩, ExsAt.keep hs hk r h2⟩
end
/-- A world without what lies in one block. -/
def Less (W : World) (b : Nat) : World := { W with heap := W.heap.setIfInBounds b (.cells #[] 0 (0, 0)) }
theorem less_size (W : World) (b : Nat) : (Less W b).heap.size = W.heap.size := by simp [Less]
theorem less_block {W : World} {b c : Nat} (h : c ≠ b) : (Less W b).heap[c]? = W.heap[c]? := by
  simp only [Less, Array.getElem?_setIfInBounds]
  rw [if_neg (Ne.symm h)]
theorem less_cell {W : World} {b c o : Nat} {v : Value} (h : (Less W b).cell? ⟨c, o, none⟩ = some v) : c ≠ b ∧ W.cell? ⟨c, o, none⟩ = some v := by
  by_cases hc : c = b
  · subst hc
    exfalso
    by_cases hl : c < W.heap.size
    · simp [Less, World.cell?, hl] at h
    · simp [Less, World.cell?, hl] at h
  · refine ⟨hc, ?_⟩
    simp only [World.cell?] at h ⊢
    rwa [less_block hc] at h
theorem cell_less {W : World} {b c o : Nat} {v : Value} (h : W.cell? ⟨c, o, none⟩ = some v) (hc : c ≠ b) : (Less W b).cell? ⟨c, o, none⟩ = some v := by
  simp only [World.cell?] at h ⊢
  rwa [less_block hc]
/-- What lies apart from block b in W lies so in W', too. -/
theorem ex_less {W W' : World} {b : Nat} {e : Ex} {vn vl : Value} (h : ExAt (Less W b) e vn vl) (hs : W.heap.size ≤ W'.heap.size) (hk : ∀ c o v, c ≠ b → W.cell? ⟨c, o, none⟩ = some v → W'.cell? ⟨c, o, none⟩ = some v) : ExAt (Less W' b) e vn vl :=
  ExAt.keep (by rw [less_size, less_size]; exact hs) (fun c o v hc => by obtain ⟨h1, h2⟩ := less_cell hc; exact cell_less (hk c o v h1 h2) h1) e h
theorem ex_back {W : World} {b : Nat} {e : Ex} {vn vl : Value} (h : ExAt (Less W b) e vn vl) : ExAt W e vn vl :=
  ExAt.keep (by rw [less_size]; exact Nat.le_refl _) (fun c o v hc => (less_cell hc).2) e h
theorem blk_less {W : World} {b c t : Nat} {cs : List Value} (h : Blk W c t cs) (hc : c ≠ b) : Blk (Less W b) c t cs := (less_block hc).trans h

theorem store_far {V : World} {b : Nat} (z0 z1 z2 z3 : Value) : (∀ c o v, c ≠ b → V.cell? ⟨c, o, none⟩ = some v → ((((V.setCell ⟨b, 0, none⟩ z0).setCell ⟨b, 1, none⟩ z1).setCell ⟨b, 2, none⟩ z2).setCell ⟨b, 3, none⟩ z3).cell? ⟨c, o, none⟩ = some v) ∧
    V.heap.size = ((((V.setCell ⟨b, 0, none⟩ z0).setCell ⟨b, 1, none⟩ z1).setCell ⟨b, 2, none⟩ z2).setCell ⟨b, 3, none⟩ z3).heap.size := by
  constructor
  · intro c o v hc h
    have h1 : ∀ (W : World) (j : Nat) (z : Value), (W.setCell ⟨b, j, none⟩ z).heap[c]? = W.heap[c]? := fun W j z => Below.heap_setCell W ⟨b, j, none⟩ z c hc
    simp only [World.cell?] at h ⊢
    rw [h1, h1, h1, h1]
    exact h
  · simp [World.setCell]
/-- The block of an expression is written: what was built stands. -/
theorem deep_one {w wr : World} {e : Ex} {vn vl : Value} {k : Int} {s : ByteArray} (hk : (Lit.int .i64 k).wf = true) (hlt : w.heap.size < wr.heap.size) (hb : Bel w wr) (hblk : Blk wr w.heap.size 25 [.int .i64 e.k, .string e.s, vn, vl]) (hex : ExAt (Less wr w.heap.size) e vn vl)
    (W : World) (hW : ((((wr.setCell ⟨w.heap.size, 0, none⟩ (.int .i64 k)).setCell ⟨w.heap.size, 1, none⟩ (.string s)).setCell ⟨w.heap.size, 2, none⟩ (.slice none 0 0)).setCell ⟨w.heap.size, 3, none⟩ (.slice (some ⟨wr.heap.size, 0, none⟩) 1 1)).alloc (.cells #[.int .i64 e.k, .string e.s, vn, vl] 25) = W) :
    Bel w W ∧ ∃ vn' vl', Blk W w.heap.size 25 [.int .i64 (Ex.mk k s [] [e]).k, .string (Ex.mk k s [] [e]).s, vn', vl'] ∧ ExAt (Less W w.heap.size) (.mk k s [] [e]) vn' vl' := by
  subst hW
  obtain ⟨s1, s2, s3⟩ := store_ex (.int .i64 k) (.string s) (.slice none 0 0) (.slice (some ⟨wr.heap.size, 0, none⟩) 1 1) hblk rfl hb (Nat.le_refl _)
  obtain ⟨f1, f2⟩ := store_far (V := wr) (b := w.heap.size) (.int .i64 k) (.string s) (.slice none 0 0) (.slice (some ⟨wr.heap.size, 0, none⟩) 1 1)
  generalize ((((wr.setCell ⟨w.heap.size, 0, none⟩ (.int .i64 k)).setCell ⟨w.heap.size, 1, none⟩ (.string s)).setCell ⟨w.heap.size, 2, none⟩ (.slice none 0 0)).setCell ⟨w.heap.size, 3, none⟩ (.slice (some ⟨wr.heap.size, 0, none⟩) 1 1)) = W1 at s1 s2 s3 f1 f2 ⊢
  have hn := Blk.new W1 25 [.int .i64 e.k, .string e.s, vn, vl]
  rw [← f2] at hn
  have hne : wr.heap.size ≠ w.heap.size := by omega
  have hl := blk_less hn hne
  have hx := ex_less hex (by rw [World.size_alloc, ← f2]; omega) (fun c o v hc h => (Bel.alloc W1 (.cells #[.int .i64 e.k, .string e.s, vn, vl] 25)).keep (f1 c o v hc h))
  refine ⟨s2.to_alloc _, _, _, s1.bel (Bel.alloc _ _), exAt_mk hk (rowE_nil _) (exs_one hl rfl hx) rfl ?_⟩
  rw [less_size, World.size_alloc, ← f2]; omega
theorem deep_two {w wr : World} {e : Ex} {vn vl : Value} {k : Int} {s : ByteArray} (a b : Ex) (an al bn bl : Value) (hab : (a = e ∧ an = vn ∧ al = vl ∧ ∃ q u, b = .mk q u [] [] ∧ (Lit.int .i64 q).wf = true ∧ bn = .slice none 0 0 ∧ bl = .slice none 0 0) ∨ (b = e ∧ bn = vn ∧ bl = vl ∧ ∃ q u, a = .mk q u [] [] ∧ (Lit.int .i64 q).wf = true ∧ an = .slice none 0 0 ∧ al = .slice none 0 0))
    (hk : (Lit.int .i64 k).wf = true) (hlt : w.heap.size < wr.heap.size) (hb : Bel w wr) (hblk : Blk wr w.heap.size 25 [.int .i64 e.k, .string e.s, vn, vl]) (hex : ExAt (Less wr w.heap.size) e vn vl)
    (W : World) (hW : ((((wr.setCell ⟨w.heap.size, 0, none⟩ (.int .i64 k)).setCell ⟨w.heap.size, 1, none⟩ (.string s)).setCell ⟨w.heap.size, 2, none⟩ (.slice none 0 0)).setCell ⟨w.heap.size, 3, none⟩ (.slice (some ⟨wr.heap.size, 0, none⟩) 2 2)).alloc (.cells #[.int .i64 a.k, .string a.s, an, al, .int .i64 b.k, .string b.s, bn, bl] 25) = W) :
    Bel w W ∧ ∃ vn' vl', Blk W w.heap.size 25 [.int .i64 (Ex.mk k s [] [a, b]).k, .string (Ex.mk k s [] [a, b]).s, vn', vl'] ∧ ExAt (Less W w.heap.size) (.mk k s [] [a, b]) vn' vl' := by
  subst hW
  obtain ⟨s1, s2, s3⟩ := store_ex (.int .i64 k) (.string s) (.slice none 0 0) (.slice (some ⟨wr.heap.size, 0, none⟩) 2 2) hblk rfl hb (Nat.le_refl _)
  obtain ⟨f1, f2⟩ := store_far (V := wr) (b := w.heap.size) (.int .i64 k) (.string s) (.slice none 0 0) (.slice (some ⟨wr.heap.size, 0, none⟩) 2 2)
  generalize ((((wr.setCell ⟨w.heap.size, 0, none⟩ (.int .i64 k)).setCell ⟨w.heap.size, 1, none⟩ (.string s)).setCell ⟨w.heap.size, 2, none⟩ (.slice none 0 0)).setCell ⟨w.heap.size, 3, none⟩ (.slice (some ⟨wr.heap.size, 0, none⟩) 2 2)) = W1 at s1 s2 s3 f1 f2 ⊢
  have hn := Blk.new W1 25 [.int .i64 a.k, .string a.s, an, al, .int .i64 b.k, .string b.s, bn, bl]
  rw [← f2] at hn
  have hne : wr.heap.size ≠ w.heap.size := by omega
  have hl := blk_less hn hne
  have hx := ex_less hex (by rw [World.size_alloc, ← f2]; omega) (fun c o v hc h => (Bel.alloc W1 (.cells #[.int .i64 a.k, .string a.s, an, al, .int .i64 b.k, .string b.s, bn, bl] 25)).keep (f1 c o v hc h))
  refine ⟨s2.to_alloc _, _, _, s1.bel (Bel.alloc _ _), exAt_mk hk (rowE_nil _) (exs_two hl rfl ?_ ?_) rfl ?_⟩
  · rcases hab with ⟨rfl, rfl, rfl, _⟩ | ⟨_, _, _, q, u, rfl, hq, rfl, rfl⟩
    · exact hx
    · exact exAt_leaf _ _ _ hq
  · rcases hab with ⟨_, _, _, q, u, rfl, hq, rfl, rfl⟩ | ⟨rfl, rfl, rfl, _⟩
    · exact exAt_leaf _ _ _ hq
    · exact hx
  · rw [less_size, World.size_alloc, ← f2]; omega

/-! The trees that the law makes. -/
def deepX (k : Int) : Nat → Ex
  | 0 => .mk 3 ⟨#[97]⟩ [] []
  | n + 1 => if k = 0 then .mk 4 ⟨#[]⟩ [] [deepX k n] else if k = 1 then .mk 16 ⟨#[]⟩ [] [.mk 0 ⟨#[49]⟩ [] [], deepX k n]
    else if k = 2 then .mk 8 ⟨#[98, 32, 99]⟩ [] [deepX k n] else .mk 5 ⟨#[97, 110, 100]⟩ [] [deepX k n, .mk 0 ⟨#[50]⟩ [] []]
theorem deepX_dE (k : Int) : ∀ n, dE (deepX k n) = n + 1
  | 0 => rfl
  | n + 1 => by
    have ih := deepX_dE k n
    unfold deepX
    split
    · unfold dE dsE dsE; omega
    · split
      · unfold dE dsE dsE dsE; rw [ih, show dE (.mk 0 ⟨#[49]⟩ [] []) = 1 from rfl]; omega
      · split
        · unfold dE dsE dsE; omega
        · unfold dE dsE dsE dsE; rw [ih, show dE (.mk 0 ⟨#[50]⟩ [] []) = 1 from rfl]; omega
theorem deepX_bulk (k : Int) : ∀ n, (deepX k n).bulk ≤ 8 * n + 2
  | 0 => by unfold deepX; decide
  | n + 1 => by
    have ih := deepX_bulk k n
    unfold deepX
    split
    · rw [bulk_eq]; show 0 + 0 + Ex.bulk.bulks [deepX k n] + 1 ≤ _; unfold Ex.bulk.bulks Ex.bulk.bulks; omega
    · split
      · rw [bulk_eq]; show 0 + 0 + Ex.bulk.bulks [.mk 0 ⟨#[49]⟩ [] [], deepX k n] + 1 ≤ _; unfold Ex.bulk.bulks Ex.bulk.bulks Ex.bulk.bulks; rw [show (Ex.mk 0 ⟨#[49]⟩ [] []).bulk = 2 from rfl]; omega
      · split
        · rw [bulk_eq]; show 3 + 0 + Ex.bulk.bulks [deepX k n] + 1 ≤ _; unfold Ex.bulk.bulks Ex.bulk.bulks; omega
        · rw [bulk_eq]; show 3 + 0 + Ex.bulk.bulks [deepX k n, .mk 0 ⟨#[50]⟩ [] []] + 1 ≤ _; unfold Ex.bulk.bulks Ex.bulk.bulks Ex.bulk.bulks; rw [show (Ex.mk 0 ⟨#[50]⟩ [] []).bulk = 2 from rfl]; omega
theorem own_one (t : Bool) : checkE (.mk 0 ⟨#[49]⟩ [] []) t = 0 := by cases t <;> decide +kernel
theorem own_two (t : Bool) : checkE (.mk 0 ⟨#[50]⟩ [] []) t = 0 := by cases t <;> decide +kernel
theorem own_path (t : Bool) : ownK 8 ⟨#[98, 32, 99]⟩ [] 1 t = 0 := by cases t <;> decide +kernel
theorem own_and (t : Bool) : ownK 5 ⟨#[97, 110, 100]⟩ [] 2 t = 0 := by cases t <;> decide +kernel
theorem own_name (t : Bool) : checkE (.mk 3 ⟨#[97]⟩ [] []) t = 0 := by cases t <;> decide +kernel
theorem deepX_check (k : Int) : ∀ n t, checkE (deepX k n) t = 0
  | 0, t => own_name t
  | n + 1, t => by
    have ih := deepX_check k n
    unfold deepX
    split
    · rw [check_one, own_neg, ih]; simp
    · split
      · rw [check_two, own_list2, own_one, ih]; simp
      · split
        · rw [check_one, own_path, ih]; simp
        · rw [check_two, own_and, ih, own_two]; simp
theorem deepX_Check (k : Int) (n : Nat) : CheckE (deepX k n) = if n < 200 then 0 else 9 := by
  unfold CheckE
  rw [deepE_iff, deepX_dE, deepX_check]
  by_cases h : n < 200
  · rw [if_pos h, if_neg (by simp; omega)]
  · rw [if_neg h, if_pos (by simp; omega)]
theorem deepX_s0 {r : Int} (j : Nat) (h : r = 0) : deepX r (j + 1) = .mk 4 ⟨#[]⟩ [] [deepX r j] := by
  conv => lhs; unfold deepX
  rw [if_pos h]
theorem deepX_s1 {r : Int} (j : Nat) (h : r = 1) : deepX r (j + 1) = .mk 16 ⟨#[]⟩ [] [.mk 0 ⟨#[49]⟩ [] [], deepX r j] := by
  conv => lhs; unfold deepX
  rw [if_neg (by omega), if_pos h]
theorem deepX_s2 {r : Int} (j : Nat) (h : r = 2) : deepX r (j + 1) = .mk 8 ⟨#[98, 32, 99]⟩ [] [deepX r j] := by
  conv => lhs; unfold deepX
  rw [if_neg (by omega), if_neg (by omega), if_pos h]
theorem deepX_s3 {r : Int} (j : Nat) (h : r ≠ 0 ∧ r ≠ 1 ∧ r ≠ 2) : deepX r (j + 1) = .mk 5 ⟨#[97, 110, 100]⟩ [] [deepX r j, .mk 0 ⟨#[50]⟩ [] []] := by
  conv => lhs; unfold deepX
  rw [if_neg h.1, if_neg h.2.1, if_neg h.2.2]
end Go.Proofs.YtgfikaagoflbbaaGreatDoor
