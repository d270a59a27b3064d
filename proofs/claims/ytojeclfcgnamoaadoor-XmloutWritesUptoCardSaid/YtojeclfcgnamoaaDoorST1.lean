/-
  The stable sort of attributes, walked: swapRange, rotate.
  xmlout.Sorted's comparison, walked; how attributes compare.
-/
import Derived.Test.YtojeclfcgnamoaaDoorDQ
import Derived.Shelf.SlSortCmp.KitK
import Derived.BigRegion
import Derived.Shelf.RegionOpenPlain
import Derived.Test.YtojeclfcgnamoaaDoorDXE
import Derived.Lib.Bytealg
import Derived.Lib.AppendIntMem
namespace Go.Proofs.YtojeclfcgnamoaaDoor
open Go.RowKit Go.Sort Go.Shelf

def encA (x : Atr) : List Value := [.string x.1, .string x.2.1, .string x.2.2]
theorem encA_len (x : Atr) : (encA x).length = 3 := rfl
theorem swk_cells {w0 W : World} {blk off : Nat} {d0 dk : Array Atr} (S : SWK encA 3 w0 blk off dk W) (R : RowK encA 3 w0 blk off d0) (hs : dk.size = d0.size) (x : Nat) (hx : x < dk.size) :
    W.cell? ⟨blk, off + x * 3, none⟩ = some (.string dk[x]!.1) ∧ W.cell? ⟨blk, off + x * 3 + 1, none⟩ = some (.string dk[x]!.2.1) ∧ W.cell? ⟨blk, off + x * 3 + 2, none⟩ = some (.string dk[x]!.2.2) ∧
    W.frozen? ⟨blk, off + x * 3, none⟩ = false ∧ W.frozen? ⟨blk, off + x * 3 + 1, none⟩ = false ∧ W.frozen? ⟨blk, off + x * 3 + 2, none⟩ = false := by
  have h := S.holds R.hblk R.hH hs
  have hc := fun c hc => h.cell (i := x) hx (c := c) hc
  have h0 := hc 0 (by decide)
  have h1 := hc 1 (by decide)
  have h2 := hc 2 (by decide)
  exact ⟨h0.1, h1.1, h2.1, h0.2, h1.2, h2.2⟩
theorem far3 (W : World) (blk off x y : Nat) (hxy : x ≠ y) (u0 u1 u2 : Value) (c : Nat) (hc : c < 3) : (W.setCells blk (off + x * 3) [u0, u1, u2]).cell? ⟨blk, off + y * 3 + c, none⟩ = W.cell? ⟨blk, off + y * 3 + c, none⟩ :=
  World.cell?_setCells_out blk _ _ W _ fun _ _ => by
    show off + y * 3 + c < off + x * 3 ∨ off + x * 3 + 3 ≤ off + y * 3 + c
    omega
theorem drew_setCell (w : World) (a : Addr) (v : Value) : (w.setCell a v).drew = w.drew.setCell a v := rfl
theorem setCells_three (w : World) (b o : Nat) (u0 u1 u2 : Value) : w.setCells b o [u0, u1, u2] = ((w.setCell ⟨b, o, none⟩ u0).setCell ⟨b, o + 1, none⟩ u1).setCell ⟨b, o + 2, none⟩ u2 := by
  unfold World.setCells
  unfold World.setCells
  unfold World.setCells
  unfold World.setCells
  rfl
theorem swap_world (w : World) (b o p : Nat) (u0 u1 u2 v0 v1 v2 : Value) : ((((((w.setCell ⟨b, o, none⟩ u0).setCell ⟨b, o + 1, none⟩ u1).setCell ⟨b, o + 2, none⟩ u2).setCell ⟨b, p, none⟩ v0).setCell ⟨b, p + 1, none⟩ v1).setCell ⟨b, p + 2, none⟩ v2).drew =
    (w.drew.setCells b o [u0, u1, u2]).setCells b p [v0, v1, v2] := by
  rw [setCells_three, setCells_three]
  simp only [drew_setCell]
set_option maxRecDepth 100000 in
set_option maxHeartbeats 8000000 in
theorem swapRange_s (g : Nat) (cb : Array Value) (blk off cap a b n : Nat) (d0 d : Array Atr) (w0 w : World) (R : RowK encA 3 w0 blk off d0) (hs : d.size = d0.size) (S : SWK encA 3 w0 blk off d w) (hab : a + n ≤ b) (hb : b + n ≤ d.size) (hsz : d.size ≤ 1073741824) :
    Calls Tryd.prog 88 #[.slice (some ⟨blk, off, none⟩) d.size cap, .int .i64 a, .int .i64 b, .int .i64 n, .func (.func g) #[] cb] w fun e w' => e = .returned (.tuple #[]) ∧ SWK encA 3 w0 blk off (swR a b 0 n d) w' := by
  obtain ⟨N, hN⟩ : ∃ N, d.size = N := ⟨_, rfl⟩
  have HNd := Lib.hid hN
  have S0 : Hid (SWK encA 3 w0 blk off d w) := Lib.hid S
  rw [hN] at hs hb hsz ⊢
  have mixed : Tryd.prog.follows Departure.mixedOrders = true := by kernel_rfl
  have aE : ∀ w, (isAgg 63).run Tryd.prog w = .ok true w := fun w => by kernel_rfl
  have zE : ∀ w, (Go.sizeOf 63).run Tryd.prog w = .ok 3 w := fun w => by kernel_rfl
  clear S hN
  go_enter Tryd.func88, Tryd.ntmps88
  go_wp2_with fail
  go_loopw [10] (fun i wr => ∃ (j : Nat) (dk : Array Atr), j ≤ n ∧ i = .int .i64 j ∧ dk.size = N ∧ Hid (SWK encA 3 w0 blk off dk wr) ∧ swR a b j (n - j) dk = swR a b 0 n d) (fun i _ => n - (intOf i).toNat)
  case atStart => exact ⟨0, d, Nat.zero_le _, rfl, HNd.out, S0, rfl⟩
  case round =>
    obtain ⟨j, dk, hj, rfl, hds, S1, heq⟩ := hrel
    by_cases hlt : j < n
    · have hlti : (j : Int) < n := by omega
      obtain ⟨x, hx⟩ : ∃ x, a + j = x := ⟨_, rfl⟩
      obtain ⟨y, hy⟩ : ∃ y, b + j = y := ⟨_, rfl⟩
      have wx : IntKind.i64.wrap ((a : Int) + j) = (x : Int) := by rw [IntKind.wrap_i64]; omega
      have wy : IntKind.i64.wrap ((b : Int) + j) = (y : Int) := by rw [IntKind.wrap_i64]; omega
      have ex : ((x : Int)).toNat = x := by omega
      have px : (0 : Int) ≤ (x : Int) := by omega
      have bx : (x : Int) < (N : Int) := by omega
      have ey : ((y : Int)).toNat = y := by omega
      have py : (0 : Int) ≤ (y : Int) := by omega
      have by' : (y : Int) < (N : Int) := by omega
      have S2 : Hid (SWK encA 3 w0 blk off (swp dk x y) ((wr.drew.setCells blk (off + x * 3) (encA dk[y]!)).setCells blk (off + y * 3) (encA dk[x]!))) := Lib.hid (S1.out.swapped R x y (by omega) (by omega))
      obtain ⟨cx0, cx1, cx2, fx0, fx1, fx2⟩ := swk_cells S1.out R (by omega) x (by omega)
      obtain ⟨cy0, cy1, cy2, fy0, fy1, fy2⟩ := swk_cells S1.out R (by omega) y (by omega)
      have HEQ := Lib.hid heq
      obtain ⟨⟨x1, x2, x3⟩, hX⟩ : ∃ q, dk[x]! = q := ⟨_, rfl⟩
      obtain ⟨⟨y1, y2, y3⟩, hY⟩ : ∃ q, dk[y]! = q := ⟨_, rfl⟩
      rw [hX] at cx0 cx1 cx2 S2
      rw [hY] at cy0 cy1 cy2 S2
      dsimp only at cx0 cx1 cx2 cy0 cy1 cy2
      have hxy : x ≠ y := by omega
      have gy0 : (wr.drew.setCells blk (off + x * 3) [.string y1, .string y2, .string y3]).cell? ⟨blk, off + y * 3, none⟩ = some (.string y1) := (far3 wr.drew blk off x y hxy _ _ _ 0 (by decide)).trans cy0
      have gy1 : (wr.drew.setCells blk (off + x * 3) [.string y1, .string y2, .string y3]).cell? ⟨blk, off + y * 3 + 1, none⟩ = some (.string y2) := (far3 wr.drew blk off x y hxy _ _ _ 1 (by decide)).trans cy1
      have gy2 : (wr.drew.setCells blk (off + x * 3) [.string y1, .string y2, .string y3]).cell? ⟨blk, off + y * 3 + 2, none⟩ = some (.string y3) := (far3 wr.drew blk off x y hxy _ _ _ 2 (by decide)).trans cy2
      have hy0 : (wr.drew.setCells blk (off + x * 3) [.string y1, .string y2, .string y3]).frozen? ⟨blk, off + y * 3, none⟩ = false := (World.frozen?_setCells _ _ _ _ _).trans fy0
      have hy1 : (wr.drew.setCells blk (off + x * 3) [.string y1, .string y2, .string y3]).frozen? ⟨blk, off + y * 3 + 1, none⟩ = false := (World.frozen?_setCells _ _ _ _ _).trans fy1
      have hy2 : (wr.drew.setCells blk (off + x * 3) [.string y1, .string y2, .string y3]).frozen? ⟨blk, off + y * 3 + 2, none⟩ = false := (World.frozen?_setCells _ _ _ _ _).trans fy2
      have HXY := Lib.hid (show a + j = x ∧ b + j = y from ⟨hx, hy⟩)
      clear S1 heq hx hy hX hY
      go_wp2_with fail
      go_big_region
      rw [swap_world]
      have S3 : Hid (SWK encA 3 w0 blk off (swp dk x y) ((wr.drew.setCells blk (off + x * 3) [.string y1, .string y2, .string y3]).setCells blk (off + y * 3) [.string x1, .string x2, .string x3])) := S2
      generalize (wr.drew.setCells blk (off + x * 3) [.string y1, .string y2, .string y3]).setCells blk (off + y * 3) [.string x1, .string x2, .string x3] = w2 at S3 ⊢
      clear S2 cx0 cx1 cx2 fx0 fx1 fx2 cy0 cy1 cy2 fy0 fy1 fy2 gy0 gy1 gy2 hy0 hy1 hy2
      go_wp2_with fail
      refine ⟨⟨j + 1, swp dk x y, by omega, by go_num, by rw [size_swp]; exact hds, S3, ?_⟩, by simp [intOf]; omega⟩
      rw [← HEQ.out, show n - j = (n - (j + 1)) + 1 from by omega]
      obtain ⟨e1, e2⟩ := HXY.out
      rw [← e1, ← e2]
      rfl
    · obtain rfl : j = n := by omega
      rw [Nat.sub_self] at heq
      have hfin : SWK encA 3 w0 blk off (swR a b 0 j d) wr := by rw [← heq]; exact S1.out
      have HF := Lib.hid hfin
      clear hfin S1 heq
      go_wp2_with fail
      go_end0
      exact ⟨rfl, HF.out⟩
set_option maxRecDepth 100000 in
set_option maxHeartbeats 8000000 in
theorem rotate_s (g : Nat) (cb : Array Value) (blk off cap a m b : Nat) (d0 d : Array Atr) (w0 w : World) (R : RowK encA 3 w0 blk off d0) (hs : d.size = d0.size) (S : SWK encA 3 w0 blk off d w) (ham : a < m) (hmb : m < b) (hb : b ≤ d.size) (hsz : d.size ≤ 1073741824) :
    Calls Tryd.prog 77 #[.slice (some ⟨blk, off, none⟩) d.size cap, .int .i64 a, .int .i64 m, .int .i64 b, .func (.func g) #[] cb] w fun e w' => e = .returned (.tuple #[]) ∧ SWK encA 3 w0 blk off (rotF m (b - a) (m - a) (b - m) d) w' := by
  obtain ⟨N, hN⟩ : ∃ N, d.size = N := ⟨_, rfl⟩
  have HNd := Lib.hid hN
  have S0 : Hid (SWK encA 3 w0 blk off d w) := Lib.hid S
  rw [hN] at hs hb hsz ⊢
  have HSW : Hid (∀ (p q k : Nat) (dk : Array Atr) (W : World), SWK encA 3 w0 blk off dk W → dk.size = N → p + k ≤ q → q + k ≤ N → Calls Tryd.prog 88 #[.slice (some ⟨blk, off, none⟩) N cap, .int .i64 p, .int .i64 q, .int .i64 k, .func (.func g) #[] cb] W fun e w' => e = .returned (.tuple #[]) ∧ SWK encA 3 w0 blk off (swR p q 0 k dk) w') := Lib.hid fun p q k dk W hS hds h1 h2 => by
    have := swapRange_s g cb blk off cap p q k d0 dk w0 W R (by omega) hS h1 (by omega) (by omega)
    rwa [hds] at this
  obtain ⟨i0, hi0⟩ : ∃ i, m - a = i := ⟨_, rfl⟩
  obtain ⟨j0, hj0⟩ : ∃ i, b - m = i := ⟨_, rfl⟩
  rw [hi0, hj0]
  have WI : Hid (IntKind.i64.wrap ((m : Int) - a) = (i0 : Int)) := Lib.hid (by rw [IntKind.wrap_i64]; omega)
  have WJ : Hid (IntKind.i64.wrap ((b : Int) - m) = (j0 : Int)) := Lib.hid (by rw [IntKind.wrap_i64]; omega)
  clear S hN hs
  go_enter Tryd.func77, Tryd.ntmps77
  have wi := WI.out
  have wj := WJ.out
  go_wp2_with fail
  clear wi wj
  go_loopw [10, 11] (fun x y wr => ∃ (i j f : Nat) (dk : Array Atr), x = .int .i64 i ∧ y = .int .i64 j ∧ 1 ≤ i ∧ 1 ≤ j ∧ i ≤ i0 ∧ j ≤ j0 ∧ i + j ≤ f ∧ dk.size = N ∧ Hid (SWK encA 3 w0 blk off dk wr) ∧ Hid (rotF m f i j dk = rotF m (b - a) i0 j0 d)) (fun x y _ => (intOf x).toNat + (intOf y).toNat)
  case atStart => exact ⟨i0, j0, b - a, d, rfl, rfl, by omega, by omega, Nat.le_refl _, Nat.le_refl _, by omega, HNd.out, S0, Lib.hid rfl⟩
  case round =>
    obtain ⟨i, j, f, dk, rfl, rfl, h1, h2, h3, h4, hf, hds, S1, HEQ⟩ := hrel
    obtain ⟨f, rfl⟩ : ∃ f', f = f' + 1 := ⟨f - 1, by omega⟩
    obtain ⟨p, hp⟩ : ∃ p, m - i = p := ⟨_, rfl⟩
    have WP : Hid (IntKind.i64.wrap ((m : Int) - i) = (p : Int)) := Lib.hid (by rw [IntKind.wrap_i64]; omega)
    by_cases hne : i = j
    · subst hne
      have HC := Lib.hid (HSW.out p m i dk wr S1.out hds (by omega) (by omega))
      have HF : Hid (swR p m 0 i dk = rotF m (b - a) i0 j0 d) := Lib.hid (by rw [← HEQ.out, rotF, if_pos rfl, hp])
      have wp' := WP.out
      clear S1 HEQ hp
      go_wp2_with fail
      refine HC.out.mono ?_
      rintro e2 w2 ⟨rfl, hS2⟩
      have HS2 := Lib.hid hS2
      clear hS2
      go_wp2_with fail
      go_end0
      exact ⟨rfl, by rw [← HF.out]; exact HS2.out⟩
    · have hni : ((i : Int) != j) = true := by simp; omega
      by_cases hgt : j < i
      · have hgti : (j : Int) < i := by omega
        have HC := Lib.hid (HSW.out p m j dk wr S1.out hds (by omega) (by omega))
        have HF : Hid (rotF m f (i - j) j (swR p m 0 j dk) = rotF m (b - a) i0 j0 d) := Lib.hid (by rw [← HEQ.out, rotF, if_neg hne, if_pos hgt, hp])
        have hsz2 : (swR p m 0 j dk).size = N := by rw [swR_size]; exact hds
        obtain ⟨q, hq⟩ : ∃ q, i - j = q := ⟨_, rfl⟩
        rw [hq] at HF
        have WQ : Hid (IntKind.i64.wrap ((i : Int) - j) = (q : Int)) := Lib.hid (by rw [IntKind.wrap_i64]; omega)
        have HQ := Lib.hid hq
        have wp' := WP.out
        have wq := WQ.out
        clear S1 HEQ hp hq
        go_wp2_with fail
        refine HC.out.mono ?_
        rintro e2 w2 ⟨rfl, hS2⟩
        have HS2 := Lib.hid hS2
        clear hS2
        go_wp2_with fail
        clear wp' wq
        have hq2 := HQ.out
        exact ⟨⟨q, j, f, swR p m 0 j dk, rfl, rfl, by omega, h2, by omega, h4, by omega, hsz2, HS2, HF⟩, by simp [intOf]; omega⟩
      · have hgti : ¬ ((j : Int) < i) := by omega
        obtain ⟨r, hr⟩ : ∃ r, m + j - i = r := ⟨_, rfl⟩
        have WS : Hid (IntKind.i64.wrap ((m : Int) + j) = (m : Int) + j) := Lib.hid (IntWalk.i64_in _ (by omega))
        have WR : Hid (IntKind.i64.wrap ((m : Int) + j - i) = (r : Int)) := Lib.hid (by rw [IntKind.wrap_i64]; omega)
        have HC := Lib.hid (HSW.out p r i dk wr S1.out hds (by omega) (by omega))
        have HF : Hid (rotF m f i (j - i) (swR p r 0 i dk) = rotF m (b - a) i0 j0 d) := Lib.hid (by rw [← HEQ.out, rotF, if_neg hne, if_neg hgt, hp, hr])
        have hsz2 : (swR p r 0 i dk).size = N := by rw [swR_size]; exact hds
        obtain ⟨q, hq⟩ : ∃ q, j - i = q := ⟨_, rfl⟩
        rw [hq] at HF
        have WQ : Hid (IntKind.i64.wrap ((j : Int) - i) = (q : Int)) := Lib.hid (by rw [IntKind.wrap_i64]; omega)
        have HQ := Lib.hid hq
        have wp' := WP.out
        have wq := WQ.out
        have ws := WS.out
        have wr' := WR.out
        clear S1 HEQ hp hq hr
        go_wp2_with fail
        refine HC.out.mono ?_
        rintro e2 w2 ⟨rfl, hS2⟩
        have HS2 := Lib.hid hS2
        clear hS2
        go_wp2_with fail
        clear wp' wq ws wr'
        have hq2 := HQ.out
        exact ⟨⟨i, q, f, swR p r 0 i dk, rfl, rfl, h1, by omega, h3, by omega, by omega, hsz2, HS2, HF⟩, by simp [intOf]; omega⟩
end Go.Proofs.YtojeclfcgnamoaaDoor

namespace Go.Proofs.YtojeclfcgnamoaaDoor
open Go.RowKit Go.Sort Go.Shelf Go.Lib

theorem cmpB_three : ∀ a b : List UInt8, (a < b ∧ compareBytes a b = -1) ∨ (a = b ∧ compareBytes a b = 0) ∨ (b < a ∧ compareBytes a b = 1)
  | [], [] => .inr (.inl ⟨rfl, rfl⟩)
  | [], b :: s => .inl ⟨List.nil_lt_cons _ _, rfl⟩
  | a :: r, [] => .inr (.inr ⟨List.nil_lt_cons _ _, rfl⟩)
  | a :: r, b :: s => by
    unfold compareBytes
    by_cases h1 : a < b
    · rw [if_pos h1]
      exact .inl ⟨List.cons_lt_cons_iff.2 (.inl h1), rfl⟩
    · rw [if_neg h1]
      by_cases h2 : b < a
      · rw [if_pos h2]
        exact .inr (.inr ⟨List.cons_lt_cons_iff.2 (.inl h2), rfl⟩)
      · rw [if_neg h2]
        have e : a = b := UInt8.le_antisymm (UInt8.not_lt.1 h2) (UInt8.not_lt.1 h1)
        subst e
        rcases cmpB_three r s with ⟨g1, g2⟩ | ⟨g1, g2⟩ | ⟨g1, g2⟩
        · exact .inl ⟨List.cons_lt_cons_iff.2 (.inr ⟨rfl, g1⟩), g2⟩
        · exact .inr (.inl ⟨by rw [g1], g2⟩)
        · exact .inr (.inr ⟨List.cons_lt_cons_iff.2 (.inr ⟨rfl, g1⟩), g2⟩)
def cS6 (a b : ByteArray) : Int := compareBytes a.data.toList b.data.toList
/-- How two attributes compare. -/
def cmpA (x y : Atr) : Int := if cS6 x.1 y.1 = 0 then cS6 x.2.1 y.2.1 else cS6 x.1 y.1
theorem cmpA_lt (x y : Atr) : cmpA x y < 0 ↔ ltA x y = true := by
  rw [ltA_iff]
  unfold cmpA cS6
  rcases cmpB_three x.1.data.toList y.1.data.toList with ⟨g1, g2⟩ | ⟨g1, g2⟩ | ⟨g1, g2⟩
  · rw [if_neg (by rw [g2]; decide), g2]
    exact ⟨fun _ => .inl g1, fun _ => by decide⟩
  · rw [if_pos g2]
    rcases cmpB_three x.2.1.data.toList y.2.1.data.toList with ⟨k1, k2⟩ | ⟨k1, k2⟩ | ⟨k1, k2⟩
    · rw [k2]
      exact ⟨fun _ => .inr ⟨g1, k1⟩, fun _ => by decide⟩
    · rw [k2]
      refine ⟨fun h => absurd h (by decide), ?_⟩
      rintro (h | ⟨_, h⟩)
      · rw [g1] at h; exact absurd h (List.lt_irrefl _)
      · rw [k1] at h; exact absurd h (List.lt_irrefl _)
    · rw [k2]
      refine ⟨fun h => absurd h (by decide), ?_⟩
      rintro (h | ⟨_, h⟩)
      · rw [g1] at h; exact absurd h (List.lt_irrefl _)
      · exact absurd (List.lt_trans k1 h) (List.lt_irrefl _)
  · rw [if_neg (by rw [g2]; decide), g2]
    refine ⟨fun h => absurd h (by decide), ?_⟩
    rintro (h | ⟨h, _⟩)
    · exact absurd (List.lt_trans g1 h) (List.lt_irrefl _)
    · rw [h] at g1; exact absurd g1 (List.lt_irrefl _)
theorem cS6_le (a b : ByteArray) : -1 ≤ cS6 a b ∧ cS6 a b ≤ 1 := by
  unfold cS6
  rcases cmpB_three a.data.toList b.data.toList with ⟨_, g⟩ | ⟨_, g⟩ | ⟨_, g⟩ <;> rw [g] <;> decide
theorem rotF_size (m : Nat) : ∀ (f i j : Nat) (d : Array Atr), (rotF m f i j d).size = d.size
  | 0, _, _, _ => rfl
  | f + 1, i, j, d => by
    unfold rotF
    split
    · rw [swR_size]
    · split
      · rw [rotF_size m f, swR_size]
      · rw [rotF_size m f, swR_size]
theorem shU_size : ∀ (k i : Nat) (d : Array Atr), (shU i k d).size = d.size
  | 0, _, _ => rfl
  | k + 1, i, d => by unfold shU; rw [shU_size k, size_swp]
theorem shD_size : ∀ (k i : Nat) (d : Array Atr), (shD i k d).size = d.size
  | 0, _, _ => rfl
  | k + 1, i, d => by unfold shD; rw [shD_size k, size_swp]
theorem ite_size {c : Prop} [Decidable c] {x y : Array Atr} {n : Nat} (hx : x.size = n) (hy : y.size = n) : (if c then x else y).size = n := by split <;> assumption
theorem symF_size (lt : Atr → Atr → Bool) : ∀ (f a m b : Nat) (d : Array Atr), (symF lt f a m b d).size = d.size
  | 0, _, _, _, _ => rfl
  | f + 1, a, m, b, d => by
    unfold symF
    split
    · rw [shU_size]
    · split
      · rw [shD_size]
      · dsimp only
        have h1 := fun (c : Prop) [Decidable c] (x y z : Nat) => ite_size (c := c) (x := rotF m x y z d) (y := d) (rotF_size m x y z d) rfl
        have h2 := fun (c c' : Prop) [Decidable c] [Decidable c'] (x y z u v t : Nat) => ite_size (c := c') ((symF_size lt f u v t _).trans (h1 c x y z)) (h1 c x y z)
        exact ite_size ((symF_size lt f _ _ _ _).trans (h2 _ _ _ _ _ _ _ _)) (h2 _ _ _ _ _ _ _ _)
/-- Draws, and blocks behind the heap. -/
def Gr (W W' : World) : Prop := ∃ q os, W' = grow (W.drewN q) os
theorem Gr.refl (W : World) : Gr W W := ⟨0, #[], by rw [grow_empty]; rfl⟩
theorem Gr.alloc {W W' : World} (h : Gr W W') (o : Obj) : Gr W (W'.alloc o) := by
  obtain ⟨q, os, rfl⟩ := h
  exact ⟨q, os ++ #[o], by rw [alloc_eq_grow, grow_grow]⟩
theorem Gr.drewN {W W' : World} (h : Gr W W') (n : Nat) : Gr W (W'.drewN n) := by
  obtain ⟨q, os, rfl⟩ := h
  exact ⟨q + n, os, by show grow ((W.drewN q).drewN n) os = _; rw [World.drewN_drewN]⟩
theorem Gr.drew {W W' : World} (h : Gr W W') : Gr W W'.drew := h.drewN 1
theorem Gr.trans {A B C : World} (h : Gr A B) (g : Gr B C) : Gr A C := by
  obtain ⟨q, os, rfl⟩ := h
  obtain ⟨p, os2, rfl⟩ := g
  refine ⟨q + p, os ++ os2, ?_⟩
  rw [← grow_grow]
  show grow (grow ((A.drewN q).drewN p) os) os2 = _
  rw [World.drewN_drewN]
theorem SWK.gr {w0 W W' : World} {blk off : Nat} {dk : Array Atr} (h : SWK encA 3 w0 blk off dk W) (g : Gr W W') : SWK encA 3 w0 blk off dk W' := by
  obtain ⟨q, os, rfl⟩ := g
  exact h.grown q os
theorem Gr.bel {W W' : World} (h : Gr W W') : Bel W W' := by
  obtain ⟨q, os, rfl⟩ := h
  exact below_grow _ W (Nat.le_refl _) q os
set_option maxRecDepth 100000 in
set_option maxHeartbeats 4000000 in
theorem or_c (a b : Int) (blk : Nat) (w : World) (h : Blk w blk 3 [.int .i64 a, .int .i64 b]) :
    Calls Tryd.prog 33 #[.slice (some ⟨blk, 0, none⟩) 2 2] w fun e w' => e = .returned (.int .i64 (if a = 0 then b else a)) ∧ w' = w := by
  have h0 : w.cell? ⟨blk, 0, none⟩ = some (.int .i64 a) := h.at 0
  have h1 : w.cell? ⟨blk, 1, none⟩ = some (.int .i64 b) := h.at 1
  clear h
  obtain ⟨A, hA⟩ : ∃ A, (a != 0) = A := ⟨_, rfl⟩
  obtain ⟨B, hB⟩ : ∃ A, (b != 0) = A := ⟨_, rfl⟩
  have HR : Hid ((if a = 0 then b else a) = if A = true then a else if B = true then b else 0) := Lib.hid (by
    rw [← hA, ← hB]
    by_cases h1 : a = 0
    · by_cases h2 : b = 0 <;> simp [h1, h2]
    · simp [h1])
  obtain ⟨r, hr⟩ : ∃ r, (if a = 0 then b else a) = r := ⟨_, rfl⟩
  rw [hr] at HR ⊢
  clear hr
  go_enter Tryd.func33, Tryd.ntmps33
  go_wp2_with fail
  go_loopw [8] (fun i wr => ∃ j : Nat, j ≤ 2 ∧ i = .int .i64 j ∧ wr = w ∧ (0 < j → A = false) ∧ (1 < j → B = false)) (fun i _ => 2 - (intOf i).toNat)
  case atStart => exact ⟨0, by omega, rfl, rfl, by omega, by omega⟩
  case round =>
    obtain ⟨j, hj, rfl, rfl, hz, hz2⟩ := hrel
    have hc : j = 0 ∨ j = 1 ∨ j = 2 := by omega
    rcases hc with rfl | rfl | rfl
    · cases A
      · go_wp2_with fail
        exact ⟨⟨1, by omega, by first | rfl | trivial, by first | rfl | trivial, fun _ => by first | rfl | trivial, by omega⟩, by simp [intOf]⟩
      · go_wp2_with fail
        go_ret
        exact ⟨by rw [HR.out]; rfl, rfl⟩
    · obtain rfl := hz (by omega)
      cases B
      · go_wp2_with fail
        exact ⟨⟨2, by omega, by first | rfl | trivial, by first | rfl | trivial, fun _ => by first | rfl | trivial, fun _ => by first | rfl | trivial⟩, by simp [intOf]⟩
      · go_wp2_with fail
        go_ret
        exact ⟨by rw [HR.out]; rfl, rfl⟩
    · obtain rfl := hz (by omega)
      obtain rfl := hz2 (by omega)
      go_wp2_with fail
      go_ret
      exact ⟨by rw [HR.out]; rfl, rfl⟩
theorem load3 {W : World} {b : Nat} {u v z : ByteArray} (h : Blk W b 63 [.string u, .string v, .string z]) : W.cell? ⟨b, 0, none⟩ = some (.string u) ∧ W.cell? ⟨b, 1, none⟩ = some (.string v) := ⟨h.at 0, h.at 1⟩
set_option maxRecDepth 100000 in
set_option maxHeartbeats 8000000 in
theorem sortcmp_c (x y : Atr) (w : World) :
    Calls Tryd.prog 32 #[.agg #[.string x.1, .string x.2.1, .string x.2.2], .agg #[.string y.1, .string y.2.1, .string y.2.2]] w fun e w' => e = .returned (.int .i64 (cmpA x y)) ∧ Gr w w' := by
  obtain ⟨x1, x2, x3⟩ := x
  obtain ⟨y1, y2, y3⟩ := y
  dsimp only
  have HC1 := fun W => Tryd.strings_Compare x1 y1 W
  have HC2 := fun W => Tryd.strings_Compare x2 y2 W
  have hv : cmpA (x1, x2, x3) (y1, y2, y3) = if cS6 x1 y1 = 0 then cS6 x2 y2 else cS6 x1 y1 := rfl
  rw [hv]
  have hr1 := cS6_le x1 y1
  have hr2 := cS6_le x2 y2
  unfold cS6 at hr1 hr2 ⊢
  obtain ⟨c1, hc1⟩ : ∃ c, compareBytes x1.data.toList y1.data.toList = c := ⟨_, rfl⟩
  obtain ⟨c2, hc2⟩ : ∃ c, compareBytes x2.data.toList y2.data.toList = c := ⟨_, rfl⟩
  rw [hc1] at HC1 hr1 ⊢
  rw [hc2] at HC2 hr2 ⊢
  obtain ⟨r, hr⟩ : ∃ r, (if c1 = 0 then c2 else c1) = r := ⟨_, rfl⟩
  rw [hr]
  have HC1' := Lib.hid HC1
  have HC2' := Lib.hid HC2
  obtain ⟨V1, h1, k1, l1, s1⟩ := alloc_step w 63 [.string x1, .string x2, .string x3]
  obtain ⟨V2, h2, k2, l2, s2⟩ := alloc_step V1 63 [.string y1, .string y2, .string y3]
  have g0 : V2.cell? ⟨w.heap.size, 0, none⟩ = some (.string x1) := (k1.bel l2).at 0
  have g1 : V2.cell? ⟨w.heap.size, 1, none⟩ = some (.string x2) := (k1.bel l2).at 1
  rw [s1] at k2
  have g2 : V2.cell? ⟨w.heap.size + 1, 0, none⟩ = some (.string y1) := k2.at 0
  have g3 : V2.cell? ⟨w.heap.size + 1, 1, none⟩ = some (.string y2) := k2.at 1
  have HG : Hid (Gr w V2) := Lib.hid (by rw [← h2, ← h1]; exact ((Gr.refl w).alloc _).alloc _)
  have HV1 := Lib.hid h1
  have HV2 := Lib.hid h2
  clear HC1 HC2 hc1 hc2 hv h1 h2 k1 k2 l1 l2 s1 s2
  go_enter Tryd.func32, Tryd.ntmps32
  go_upto_region 1 with fail
  rw [show (w.alloc (.cells #[.string x1, .string x2, .string x3] 63)).alloc (.cells #[.string y1, .string y2, .string y3] 63) = V2 from by rw [HV1.out, HV2.out]]
  refine wp_region_held_drew (S := fun w' => w'.cell? ⟨w.heap.size, 0, none⟩ = some (.string x1) ∧ w'.cell? ⟨w.heap.size, 1, none⟩ = some (.string x2) ∧ w'.cell? ⟨w.heap.size + 1, 0, none⟩ = some (.string y1) ∧ w'.cell? ⟨w.heap.size + 1, 1, none⟩ = some (.string y2) ∧ Gr V2 w') (by kernel_rfl) ⟨g0, g1, g2, g3, (Gr.refl _).drew⟩ (fun hHeld => ?_)
  refine wpAnyH_take (i := 0) (oi := _) (v := ?_) rfl (by kernel_rfl) (by kernel_rfl) (by kernel_rfl) (fun _ _ _ h => h) ?_ (by assumption) ?_
  rotate_left 1
  · first
      | (refine Or.inl ⟨by rfl, ?_⟩; intro w9 hSw; (try dsimp only at hSw); go_simp; (try with_reducible rfl); done)
      | (refine Or.inr ⟨by rfl, ?_⟩; rfl)
  simp only [List.getElem_toArray, List.getElem_cons_zero, Act.put, List.setIfInBounds_toArray, List.set_cons_zero, List.set_cons_succ]
  refine wpAnyH_take (i := 1) (oi := _) (v := ?_) rfl (by kernel_rfl) (by kernel_rfl) (by kernel_rfl) (fun _ _ _ h => h) ?_ (by assumption) ?_
  rotate_left 1
  · first
      | (refine Or.inl ⟨by rfl, ?_⟩; intro w9 hSw; (try dsimp only at hSw); go_simp; (try with_reducible rfl); done)
      | (refine Or.inr ⟨by rfl, ?_⟩; rfl)
  simp only [List.getElem_toArray, List.getElem_cons_succ, List.getElem_cons_zero, Act.put, List.setIfInBounds_toArray, List.set_cons_zero, List.set_cons_succ]
  refine wpAnyH_take (i := 2) (oi := _) (v := ?_) rfl (by kernel_rfl) (by kernel_rfl) (by kernel_rfl) (fun _ _ _ h => h) ?_ (by assumption) ?_
  rotate_left 1
  · first
      | (refine Or.inl ⟨by rfl, ?_⟩; intro w9 hSw; (try dsimp only at hSw); go_simp; (try with_reducible rfl); done)
      | (refine Or.inr ⟨by rfl, ?_⟩; rfl)
  simp only [List.getElem_toArray, List.getElem_cons_succ, List.getElem_cons_zero, Act.put, List.setIfInBounds_toArray, List.set_cons_zero, List.set_cons_succ]
  refine wpAnyH_take (i := 3) (oi := _) (v := ?_) rfl (by kernel_rfl) (by kernel_rfl) (by kernel_rfl) (fun _ _ _ h => h) ?_ (by assumption) ?_
  rotate_left 1
  · first
      | (refine Or.inl ⟨by rfl, ?_⟩; intro w9 hSw; (try dsimp only at hSw); go_simp; (try with_reducible rfl); done)
      | (refine Or.inr ⟨by rfl, ?_⟩; rfl)
  simp only [List.getElem_toArray, List.getElem_cons_succ, List.getElem_cons_zero, Act.put, List.setIfInBounds_toArray, List.set_cons_zero, List.set_cons_succ]
  refine wpAnyH_take (i := 4) (oi := _) (v := ?_) rfl (by kernel_rfl) (by kernel_rfl) (by kernel_rfl) (fun _ _ _ h => h) ?_ (by assumption) ?_
  rotate_left 1
  · first
      | (refine Or.inl ⟨by rfl, ?_⟩; intro w9 hSw; (try dsimp only at hSw); go_simp; (try with_reducible rfl); done)
      | (refine Or.inr ⟨by rfl, ?_⟩; rfl)
  simp only [List.getElem_toArray, List.getElem_cons_succ, List.getElem_cons_zero, Act.put, List.setIfInBounds_toArray, List.set_cons_zero, List.set_cons_succ]
  refine wpAnyH_take (i := 5) (oi := _) (v := ?_) rfl (by kernel_rfl) (by kernel_rfl) (by kernel_rfl) (fun _ _ _ h => h) ?_ (by assumption) ?_
  rotate_left 1
  · first
      | (refine Or.inl ⟨by rfl, ?_⟩; intro w9 hSw; (try dsimp only at hSw); go_simp; (try with_reducible rfl); done)
      | (refine Or.inr ⟨by rfl, ?_⟩; rfl)
  simp only [List.getElem_toArray, List.getElem_cons_succ, List.getElem_cons_zero, Act.put, List.setIfInBounds_toArray, List.set_cons_zero, List.set_cons_succ]
  refine wpAnyH_take (i := 7) (oi := _) (v := ?_) rfl (by kernel_rfl) (by kernel_rfl) (by kernel_rfl) (fun _ _ _ h => h) ?_ (by assumption) ?_
  rotate_left 1
  · first
      | (refine Or.inl ⟨by rfl, ?_⟩; intro w9 hSw; (try dsimp only at hSw); go_simp; (try with_reducible rfl); done)
      | (refine Or.inr ⟨by rfl, ?_⟩; rfl)
  simp only [List.getElem_toArray, List.getElem_cons_succ, List.getElem_cons_zero, Act.put, List.setIfInBounds_toArray, List.set_cons_zero, List.set_cons_succ]
  refine wpAnyH_take (i := 8) (oi := _) (v := ?_) rfl (by kernel_rfl) (by kernel_rfl) (by kernel_rfl) (fun _ _ _ h => h) ?_ (by assumption) ?_
  rotate_left 1
  · first
      | (refine Or.inl ⟨by rfl, ?_⟩; intro w9 hSw; (try dsimp only at hSw); go_simp; (try with_reducible rfl); done)
      | (refine Or.inr ⟨by rfl, ?_⟩; rfl)
  simp only [List.getElem_toArray, List.getElem_cons_succ, List.getElem_cons_zero, Act.put, List.setIfInBounds_toArray, List.set_cons_zero, List.set_cons_succ]
  refine wpAnyH_take (i := 9) (oi := _) (v := ?_) rfl (by kernel_rfl) (by kernel_rfl) (by kernel_rfl) (fun _ _ _ h => h) ?_ (by assumption) ?_
  rotate_left 1
  · first
      | (refine Or.inl ⟨by rfl, ?_⟩; intro w9 hSw; (try dsimp only at hSw); go_simp; (try with_reducible rfl); done)
      | (refine Or.inr ⟨by rfl, ?_⟩; rfl)
  simp only [List.getElem_toArray, List.getElem_cons_succ, List.getElem_cons_zero, Act.put, List.setIfInBounds_toArray, List.set_cons_zero, List.set_cons_succ]
  refine wpAnyH_take (i := 10) (oi := _) (v := ?_) rfl (by kernel_rfl) (by kernel_rfl) (by kernel_rfl) (fun _ _ _ h => h) ?_ (by assumption) ?_
  rotate_left 1
  · first
      | (refine Or.inl ⟨by rfl, ?_⟩; intro w9 hSw; (try dsimp only at hSw); go_simp; (try with_reducible rfl); done)
      | (refine Or.inr ⟨by rfl, ?_⟩; rfl)
  simp only [List.getElem_toArray, List.getElem_cons_succ, List.getElem_cons_zero, Act.put, List.setIfInBounds_toArray, List.set_cons_zero, List.set_cons_succ]
  refine wpAnyH_take (i := 11) (oi := _) (v := ?_) rfl (by kernel_rfl) (by kernel_rfl) (by kernel_rfl) (fun _ _ _ h => h) ?_ (by assumption) ?_
  rotate_left 1
  · first
      | (refine Or.inl ⟨by rfl, ?_⟩; intro w9 hSw; (try dsimp only at hSw); go_simp; (try with_reducible rfl); done)
      | (refine Or.inr ⟨by rfl, ?_⟩; rfl)
  simp only [List.getElem_toArray, List.getElem_cons_succ, List.getElem_cons_zero, Act.put, List.setIfInBounds_toArray, List.set_cons_zero, List.set_cons_succ]
  refine wpAnyH_take (i := 12) (oi := _) (v := ?_) rfl (by kernel_rfl) (by kernel_rfl) (by kernel_rfl) (fun _ _ _ h => h) ?_ (by assumption) ?_
  rotate_left 1
  · first
      | (refine Or.inl ⟨by rfl, ?_⟩; intro w9 hSw; (try dsimp only at hSw); go_simp; (try with_reducible rfl); done)
      | (refine Or.inr ⟨by rfl, ?_⟩; rfl)
  simp only [List.getElem_toArray, List.getElem_cons_succ, List.getElem_cons_zero, Act.put, List.setIfInBounds_toArray, List.set_cons_zero, List.set_cons_succ]
  refine wpAnyH_ready (rs := [6]) (by kernel_rfl) (by simp) ?_
  refine AllReadyH.cons (o := _) rfl (fun K hK => ?_) AllReadyH.nil
  go_simp
  refine (HC1'.out _).mono ?_
  rintro e3 w3 ⟨rfl, rfl⟩
  dsimp only
  refine hK.out _ _ hHeld (fun hHeld => ?_)
  clear hK K
  refine wpAnyH_ready (rs := [13]) (by kernel_rfl) (by simp) ?_
  refine AllReadyH.cons (o := _) rfl (fun K hK => ?_) AllReadyH.nil
  go_simp
  refine (HC2'.out _).mono ?_
  rintro e4 w4 ⟨rfl, rfl⟩
  dsimp only
  refine hK.out _ _ hHeld (fun hHeld => ?_)
  clear hK K
  refine wpAnyH_ready (rs := [14]) (by kernel_rfl) (by simp) ?_
  refine AllReadyH.cons (o := _) rfl (fun K hK => ?_) AllReadyH.nil
  go_simp
  have HBK : Hid (Blk (V2.alloc (.cells #[.int .i64 c1, .int .i64 c2] 3)) V2.heap.size 3 [.int .i64 c1, .int .i64 c2]) := Lib.hid (Blk.new V2 3 [.int .i64 c1, .int .i64 c2])
  have HOR : Hid (∀ W, Blk W V2.heap.size 3 [.int .i64 c1, .int .i64 c2] → Calls Tryd.prog 33 #[.slice (some ⟨V2.heap.size, 0, none⟩) 2 2] W fun e w' => e = .returned (.int .i64 r) ∧ w' = W) := Lib.hid fun W hW => by
    rw [← hr]
    exact or_c c1 c2 _ W hW
  refine hK.out _ _ ⟨(Bel.alloc V2 _).keep g0, (Bel.alloc V2 _).keep g1, (Bel.alloc V2 _).keep g2, (Bel.alloc V2 _).keep g3, ((Gr.refl V2).alloc _).drew⟩ (fun hHeld => ?_)
  clear hK K hr
  refine wpAnyH_ready (rs := [15]) (by kernel_rfl) (by simp) ?_
  refine AllReadyH.cons (o := _) rfl (fun K hK => ?_) AllReadyH.nil
  go_simp
  refine (HOR.out _ HBK.out.drew).mono ?_
  rintro e5 w5 ⟨rfl, rfl⟩
  dsimp only
  refine hK.out _ _ hHeld (fun hHeld => ?_)
  clear hK K
  refine wpAnyH_take (i := 16) (oi := _) (v := ?_) rfl (by kernel_rfl) (by kernel_rfl) (by kernel_rfl) (fun _ _ _ h => h) ?_ (by assumption) ?_
  rotate_left 1
  · first
      | (refine Or.inl ⟨by rfl, ?_⟩; intro w9 hSw; (try dsimp only at hSw); go_simp; (try with_reducible rfl); done)
      | (refine Or.inr ⟨by rfl, ?_⟩; rfl)
  simp only [List.getElem_toArray, List.getElem_cons_succ, List.getElem_cons_zero, Act.put, List.setIfInBounds_toArray, List.set_cons_zero, List.set_cons_succ]
  refine wpAnyH_done (by kernel_rfl) ?_ _
  have HFG := Lib.hid (HG.out.trans hHeld.2.2.2.2)
  clear hHeld g0 g1 g2 g3
  go_wp2_with fail
  go_ret
  exact ⟨rfl, HFG.out⟩
end Go.Proofs.YtojeclfcgnamoaaDoor
