/-
  The stable sort of attributes, walked: swapRange, rotate.
-/
import Derived.Test.YtojeclfcgnamoaaDoorDC
import Derived.Shelf.SlSortCmp.KitK
import Derived.BigRegion
import Derived.Shelf.RegionOpenPlain
namespace Go.Proofs.YtojeclfcgnamoaaDoor
open Go.RowKit Go.Sort Go.Shelf

def encA (x : Atr) : List Value := [.string x.1, .string x.2.1, .string x.2.2]
theorem encA_len (x : Atr) : (encA x).length = 3 := rfl
theorem swk_cells {w0 W : World} {blk off : Nat} {d0 dk : Array Atr} (S : SWK encA 3 w0 blk off dk W) (R : RowK encA 3 w0 blk off d0) (hs : dk.size = d0.size) (x : Nat) (hx : x < dk.size) :
    W.cell? ⟨blk, off + x * 3, none⟩ = some (.string dk[x]!.1) ∧ W.cell? ⟨blk, off + x * 3 + 1, none⟩ = some (.string dk[x]!.2.1) ∧ W.cell? ⟨blk, off + x * 3 + 2, none⟩ = some (.string dk[x]!.2.2) ∧
    W.frozen? ⟨blk, off + x * 3, none⟩ = false ∧ W.frozen? ⟨blk, off + x * 3 + 1, none⟩ = false ∧ W.frozen? ⟨blk, off + x * 3 + 2, none⟩ = false := by
  have h := S.holds R.hblk R.hH hs
  have hc := fun c hc => h.cell (i := x) hx (c := c) hc
  have h0 := hc 0 (by decide)
  have h1 := hc 1 (by decide)
  have h2 := hc 2 (by decide)
  exact ⟨h0.1, h1.1, h2.1, h0.2, h1.2, h2.2⟩
theorem far3 (W : World) (blk off x y : Nat) (hxy : x ≠ y) (u0 u1 u2 : Value) (c : Nat) (hc : c < 3) : (W.setCells blk (off + x * 3) [u0, u1, u2]).cell? ⟨blk, off + y * 3 + c, none⟩ = W.cell? ⟨blk, off + y * 3 + c, none⟩ :=
  World.cell?_setCells_out blk _ _ W _ fun _ _ => by
    show off + y * 3 + c < off + x * 3 ∨ off + x * 3 + 3 ≤ off + y * 3 + c
    omega
theorem drew_setCell (w : World) (a : Addr) (v : Value) : (w.setCell a v).drew = w.drew.setCell a v := rfl
theorem setCells_three (w : World) (b o : Nat) (u0 u1 u2 : Value) : w.setCells b o [u0, u1, u2] = ((w.setCell ⟨b, o, none⟩ u0).setCell ⟨b, o + 1, none⟩ u1).setCell ⟨b, o + 2, none⟩ u2 := by
  unfold World.setCells
  unfold World.setCells
  unfold World.setCells
  unfold World.setCells
  rfl
theorem swap_world (w : World) (b o p : Nat) (u0 u1 u2 v0 v1 v2 : Value) : ((((((w.setCell ⟨b, o, none⟩ u0).setCell ⟨b, o + 1, none⟩ u1).setCell ⟨b, o + 2, none⟩ u2).setCell ⟨b, p, none⟩ v0).setCell ⟨b, p + 1, none⟩ v1).setCell ⟨b, p + 2, none⟩ v2).drew =
    (w.drew.setCells b o [u0, u1, u2]).setCells b p [v0, v1, v2] := by
  rw [setCells_three, setCells_three]
  simp only [drew_setCell]
set_option maxRecDepth 100000 in
set_option maxHeartbeats 8000000 in
theorem swapRange_s (g : Nat) (cb : Array Value) (blk off cap a b n : Nat) (d0 d : Array Atr) (w0 w : World) (R : RowK encA 3 w0 blk off d0) (hs : d.size = d0.size) (S : SWK encA 3 w0 blk off d w) (hab : a + n ≤ b) (hb : b + n ≤ d.size) (hsz : d.size ≤ 1073741824) :
    Calls Tryd.prog 88 #[.slice (some ⟨blk, off, none⟩) d.size cap, .int .i64 a, .int .i64 b, .int .i64 n, .func (.func g) #[] cb] w fun e w' => e = .returned (.tuple #[]) ∧ SWK encA 3 w0 blk off (swR a b 0 n d) w' := by
  obtain ⟨N, hN⟩ : ∃ N, d.size = N := ⟨_, rfl⟩
  have HNd := Lib.hid hN
  have S0 : Hid (SWK encA 3 w0 blk off d w) := Lib.hid S
  rw [hN] at hs hb hsz ⊢
  have mixed : Tryd.prog.follows Departure.mixedOrders = true := by kernel_rfl
  have aE : ∀ w, (isAgg 63).run Tryd.prog w = .ok true w := fun w => by kernel_rfl
  have zE : ∀ w, (Go.sizeOf 63).run Tryd.prog w = .ok 3 w := fun w => by kernel_rfl
  clear S hN
  go_enter Tryd.func88, Tryd.ntmps88
  go_wp2_with fail
  go_loopw [10] (fun i wr => ∃ (j : Nat) (dk : Array Atr), j ≤ n ∧ i = .int .i64 j ∧ dk.size = N ∧ Hid (SWK encA 3 w0 blk off dk wr) ∧ swR a b j (n - j) dk = swR a b 0 n d) (fun i _ => n - (intOf i).toNat)
  case atStart => exact ⟨0, d, Nat.zero_le _, rfl, HNd.out, S0, rfl⟩
  case round =>
    obtain ⟨j, dk, hj, rfl, hds, S1, heq⟩ := hrel
    by_cases hlt : j < n
    · have hlti : (j : Int) < n := by omega
      obtain ⟨x, hx⟩ : ∃ x, a + j = x := ⟨_, rfl⟩
      obtain ⟨y, hy⟩ : ∃ y, b + j = y := ⟨_, rfl⟩
      have wx : IntKind.i64.wrap ((a : Int) + j) = (x : Int) := by rw [IntKind.wrap_i64]; omega
      have wy : IntKind.i64.wrap ((b : Int) + j) = (y : Int) := by rw [IntKind.wrap_i64]; omega
      have ex : ((x : Int)).toNat = x := by omega
      have px : (0 : Int) ≤ (x : Int) := by omega
      have bx : (x : Int) < (N : Int) := by omega
      have ey : ((y : Int)).toNat = y := by omega
      have py : (0 : Int) ≤ (y : Int) := by omega
      have by' : (y : Int) < (N : Int) := by omega
      have S2 : Hid (SWK encA 3 w0 blk off (swp dk x y) ((wr.drew.setCells blk (off + x * 3) (encA dk[y]!)).setCells blk (off + y * 3) (encA dk[x]!))) := Lib.hid (S1.out.swapped R x y (by omega) (by omega))
      obtain ⟨cx0, cx1, cx2, fx0, fx1, fx2⟩ := swk_cells S1.out R (by omega) x (by omega)
      obtain ⟨cy0, cy1, cy2, fy0, fy1, fy2⟩ := swk_cells S1.out R (by omega) y (by omega)
      have HEQ := Lib.hid heq
      obtain ⟨⟨x1, x2, x3⟩, hX⟩ : ∃ q, dk[x]! = q := ⟨_, rfl⟩
      obtain ⟨⟨y1, y2, y3⟩, hY⟩ : ∃ q, dk[y]! = q := ⟨_, rfl⟩
      rw [hX] at cx0 cx1 cx2 S2
      rw [hY] at cy0 cy1 cy2 S2
      dsimp only at cx0 cx1 cx2 cy0 cy1 cy2
      have hxy : x ≠ y := by omega
      have gy0 : (wr.drew.setCells blk (off + x * 3) [.string y1, .string y2, .string y3]).cell? ⟨blk, off + y * 3, none⟩ = some (.string y1) := (far3 wr.drew blk off x y hxy _ _ _ 0 (by decide)).trans cy0
      have gy1 : (wr.drew.setCells blk (off + x * 3) [.string y1, .string y2, .string y3]).cell? ⟨blk, off + y * 3 + 1, none⟩ = some (.string y2) := (far3 wr.drew blk off x y hxy _ _ _ 1 (by decide)).trans cy1
      have gy2 : (wr.drew.setCells blk (off + x * 3) [.string y1, .string y2, .string y3]).cell? ⟨blk, off + y * 3 + 2, none⟩ = some (.string y3) := (far3 wr.drew blk off x y hxy _ _ _ 2 (by decide)).trans cy2
      have hy0 : (wr.drew.setCells blk (off + x * 3) [.string y1, .string y2, .string y3]).frozen? ⟨blk, off + y * 3, none⟩ = false := (World.frozen?_setCells _ _ _ _ _).trans fy0
      have hy1 : (wr.drew.setCells blk (off + x * 3) [.string y1, .string y2, .string y3]).frozen? ⟨blk, off + y * 3 + 1, none⟩ = false := (World.frozen?_setCells _ _ _ _ _).trans fy1
      have hy2 : (wr.drew.setCells blk (off + x * 3) [.string y1, .string y2, .string y3]).frozen? ⟨blk, off + y * 3 + 2, none⟩ = false := (World.frozen?_setCells _ _ _ _ _).trans fy2
      have HXY := Lib.hid (show a + j = x ∧ b + j = y from ⟨hx, hy⟩)
      clear S1 heq hx hy hX hY
      go_wp2_with fail
      go_big_region
      rw [swap_world]
      have S3 : Hid (SWK encA 3 w0 blk off (swp dk x y) ((wr.drew.setCells blk (off + x * 3) [.string y1, .string y2, .string y3]).setCells blk (off + y * 3) [.string x1, .string x2, .string x3])) := S2
      generalize (wr.drew.setCells blk (off + x * 3) [.string y1, .string y2, .string y3]).setCells blk (off + y * 3) [.string x1, .string x2, .string x3] = w2 at S3 ⊢
      clear S2 cx0 cx1 cx2 fx0 fx1 fx2 cy0 cy1 cy2 fy0 fy1 fy2 gy0 gy1 gy2 hy0 hy1 hy2
      go_wp2_with fail
      refine ⟨⟨j + 1, swp dk x y, by omega, by go_num, by rw [size_swp]; exact hds, S3, ?_⟩, by simp [intOf]; omega⟩
      rw [← HEQ.out, show n - j = (n - (j + 1)) + 1 from by omega]
      obtain ⟨e1, e2⟩ := HXY.out
      rw [← e1, ← e2]
      rfl
    · obtain rfl : j = n := by omega
      rw [Nat.sub_self] at heq
      have hfin : SWK encA 3 w0 blk off (swR a b 0 j d) wr := by rw [← heq]; exact S1.out
      have HF := Lib.hid hfin
      clear hfin S1 heq
      go_wp2_with fail
      go_end0
      exact ⟨rfl, HF.out⟩
set_option maxRecDepth 100000 in
set_option maxHeartbeats 8000000 in
theorem rotate_s (g : Nat) (cb : Array Value) (blk off cap a m b : Nat) (d0 d : Array Atr) (w0 w : World) (R : RowK encA 3 w0 blk off d0) (hs : d.size = d0.size) (S : SWK encA 3 w0 blk off d w) (ham : a < m) (hmb : m < b) (hb : b ≤ d.size) (hsz : d.size ≤ 1073741824) :
    Calls Tryd.prog 77 #[.slice (some ⟨blk, off, none⟩) d.size cap, .int .i64 a, .int .i64 m, .int .i64 b, .func (.func g) #[] cb] w fun e w' => e = .returned (.tuple #[]) ∧ SWK encA 3 w0 blk off (rotF m (b - a) (m - a) (b - m) d) w' := by
  obtain ⟨N, hN⟩ : ∃ N, d.size = N := ⟨_, rfl⟩
  have HNd := Lib.hid hN
  have S0 : Hid (SWK encA 3 w0 blk off d w) := Lib.hid S
  rw [hN] at hs hb hsz ⊢
  have HSW : Hid (∀ (p q k : Nat) (dk : Array Atr) (W : World), SWK encA 3 w0 blk off dk W → dk.size = N → p + k ≤ q → q + k ≤ N → Calls Tryd.prog 88 #[.slice (some ⟨blk, off, none⟩) N cap, .int .i64 p, .int .i64 q, .int .i64 k, .func (.func g) #[] cb] W fun e w' => e = .returned (.tuple #[]) ∧ SWK encA 3 w0 blk off (swR p q 0 k dk) w') := Lib.hid fun p q k dk W hS hds h1 h2 => by
    have := swapRange_s g cb blk off cap p q k d0 dk w0 W R (by omega) hS h1 (by omega) (by omega)
    rwa [hds] at this
  obtain ⟨i0, hi0⟩ : ∃ i, m - a = i := ⟨_, rfl⟩
  obtain ⟨j0, hj0⟩ : ∃ i, b - m = i := ⟨_, rfl⟩
  rw [hi0, hj0]
  have WI : Hid (IntKind.i64.wrap ((m : Int) - a) = (i0 : Int)) := Lib.hid (by rw [IntKind.wrap_i64]; omega)
  have WJ : Hid (IntKind.i64.wrap ((b : Int) - m) = (j0 : Int)) := Lib.hid (by rw [IntKind.wrap_i64]; omega)
  clear S hN hs
  go_enter Tryd.func77, Tryd.ntmps77
  have wi := WI.out
  have wj := WJ.out
  go_wp2_with fail
  clear wi wj
  go_loopw [10, 11] (fun x y wr => ∃ (i j f : Nat) (dk : Array Atr), x = .int .i64 i ∧ y = .int .i64 j ∧ 1 ≤ i ∧ 1 ≤ j ∧ i ≤ i0 ∧ j ≤ j0 ∧ i + j ≤ f ∧ dk.size = N ∧ Hid (SWK encA 3 w0 blk off dk wr) ∧ Hid (rotF m f i j dk = rotF m (b - a) i0 j0 d)) (fun x y _ => (intOf x).toNat + (intOf y).toNat)
  case atStart => exact ⟨i0, j0, b - a, d, rfl, rfl, by omega, by omega, Nat.le_refl _, Nat.le_refl _, by omega, HNd.out, S0, Lib.hid rfl⟩
  case round =>
    obtain ⟨i, j, f, dk, rfl, rfl, h1, h2, h3, h4, hf, hds, S1, HEQ⟩ := hrel
    obtain ⟨f, rfl⟩ : ∃ f', f = f' + 1 := ⟨f - 1, by omega⟩
    obtain ⟨p, hp⟩ : ∃ p, m - i = p := ⟨_, rfl⟩
    have WP : Hid (IntKind.i64.wrap ((m : Int) - i) = (p : Int)) := Lib.hid (by rw [IntKind.wrap_i64]; omega)
    by_cases hne : i = j
    · subst hne
      have HC := Lib.hid (HSW.out p m i dk wr S1.out hds (by omega) (by omega))
      have HF : Hid (swR p m 0 i dk = rotF m (b - a) i0 j0 d) := Lib.hid (by rw [← HEQ.out, rotF, if_pos rfl, hp])
      have wp' := WP.out
      clear S1 HEQ hp
      go_wp2_with fail
      refine HC.out.mono ?_
      rintro e2 w2 ⟨rfl, hS2⟩
      have HS2 := Lib.hid hS2
      clear hS2
      go_wp2_with fail
      go_end0
      exact ⟨rfl, by rw [← HF.out]; exact HS2.out⟩
    · have hni : ((i : Int) != j) = true := by simp; omega
      by_cases hgt : j < i
      · have hgti : (j : Int) < i := by omega
        have HC := Lib.hid (HSW.out p m j dk wr S1.out hds (by omega) (by omega))
        have HF : Hid (rotF m f (i - j) j (swR p m 0 j dk) = rotF m (b - a) i0 j0 d) := Lib.hid (by rw [← HEQ.out, rotF, if_neg hne, if_pos hgt, hp])
        have hsz2 : (swR p m 0 j dk).size = N := by rw [swR_size]; exact hds
        obtain ⟨q, hq⟩ : ∃ q, i - j = q := ⟨_, rfl⟩
        rw [hq] at HF
        have WQ : Hid (IntKind.i64.wrap ((i : Int) - j) = (q : Int)) := Lib.hid (by rw [IntKind.wrap_i64]; omega)
        have HQ := Lib.hid hq
        have wp' := WP.out
        have wq := WQ.out
        clear S1 HEQ hp hq
        go_wp2_with fail
        refine HC.out.mono ?_
        rintro e2 w2 ⟨rfl, hS2⟩
        have HS2 := Lib.hid hS2
        clear hS2
        go_wp2_with fail
        clear wp' wq
        have hq2 := HQ.out
        exact ⟨⟨q, j, f, swR p m 0 j dk, rfl, rfl, by omega, h2, by omega, h4, by omega, hsz2, HS2, HF⟩, by simp [intOf]; omega⟩
      · have hgti : ¬ ((j : Int) < i) := by omega
        obtain ⟨r, hr⟩ : ∃ r, m + j - i = r := ⟨_, rfl⟩
        have WS : Hid (IntKind.i64.wrap ((m : Int) + j) = (m : Int) + j) := Lib.hid (IntWalk.i64_in _ (by omega))
        have WR : Hid (IntKind.i64.wrap ((m : Int) + j - i) = (r : Int)) := Lib.hid (by rw [IntKind.wrap_i64]; omega)
        have HC := Lib.hid (HSW.out p r i dk wr S1.out hds (by omega) (by omega))
        have HF : Hid (rotF m f i (j - i) (swR p r 0 i dk) = rotF m (b - a) i0 j0 d) := Lib.hid (by rw [← HEQ.out, rotF, if_neg hne, if_neg hgt, hp, hr])
        have hsz2 : (swR p r 0 i dk).size = N := by rw [swR_size]; exact hds
        obtain ⟨q, hq⟩ : ∃ q, j - i = q := ⟨_, rfl⟩
        rw [hq] at HF
        have WQ : Hid (IntKind.i64.wrap ((j : Int) - i) = (q : Int)) := Lib.hid (by rw [IntKind.wrap_i64]; omega)
        have HQ := Lib.hid hq
        have wp' := WP.out
        have wq := WQ.out
        have ws := WS.out
        have wr' := WR.out
        clear S1 HEQ hp hq hr
        go_wp2_with fail
        refine HC.out.mono ?_
        rintro e2 w2 ⟨rfl, hS2⟩
        have HS2 := Lib.hid hS2
        clear hS2
        go_wp2_with fail
        clear wp' wq ws wr'
        have hq2 := HQ.out
        exact ⟨⟨i, q, f, swR p r 0 i dk, rfl, rfl, h1, by omega, h3, by omega, by omega, hsz2, HS2, HF⟩, by simp [intOf]; omega⟩
end Go.Proofs.YtojeclfcgnamoaaDoor
