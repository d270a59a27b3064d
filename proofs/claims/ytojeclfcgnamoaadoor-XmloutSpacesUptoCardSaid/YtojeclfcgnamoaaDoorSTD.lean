/-
  xmlout.Sorted's comparison, walked; how attributes compare.
-/
import Derived.Test.YtojeclfcgnamoaaDoorSTC
import Derived.Test.YtojeclfcgnamoaaDoorDX
import Derived.Lib.Bytealg
import Derived.Lib.AppendIntMem
namespace Go.Proofs.YtojeclfcgnamoaaDoor
open Go.RowKit Go.Sort Go.Shelf Go.Lib

theorem cmpB_three : ∀ a b : List UInt8, (a < b ∧ compareBytes a b = -1) ∨ (a = b ∧ compareBytes a b = 0) ∨ (b < a ∧ compareBytes a b = 1)
  | [], [] => .inr (.inl ⟨rfl, rfl⟩)
  | [], b :: s => .inl ⟨List.nil_lt_cons _ _, rfl⟩
  | a :: r, [] => .inr (.inr ⟨List.nil_lt_cons _ _, rfl⟩)
  | a :: r, b :: s => by
    unfold compareBytes
    by_cases h1 : a < b
    · rw [if_pos h1]
      exact .inl ⟨List.cons_lt_cons_iff.2 (.inl h1), rfl⟩
    · rw [if_neg h1]
      by_cases h2 : b < a
      · rw [if_pos h2]
        exact .inr (.inr ⟨List.cons_lt_cons_iff.2 (.inl h2), rfl⟩)
      · rw [if_neg h2]
        have e : a = b := UInt8.le_antisymm (UInt8.not_lt.1 h2) (UInt8.not_lt.1 h1)
        subst e
        rcases cmpB_three r s with ⟨g1, g2⟩ | ⟨g1, g2⟩ | ⟨g1, g2⟩
        · exact .inl ⟨List.cons_lt_cons_iff.2 (.inr ⟨rfl, g1⟩), g2⟩
        · exact .inr (.inl ⟨by rw [g1], g2⟩)
        · exact .inr (.inr ⟨List.cons_lt_cons_iff.2 (.inr ⟨rfl, g1⟩), g2⟩)
def cS6 (a b : ByteArray) : Int := compareBytes a.data.toList b.data.toList
/-- How two attributes compare. -/
def cmpA (x y : Atr) : Int := if cS6 x.1 y.1 = 0 then cS6 x.2.1 y.2.1 else cS6 x.1 y.1
theorem cmpA_lt (x y : Atr) : cmpA x y < 0 ↔ ltA x y = true := by
  rw [ltA_iff]
  unfold cmpA cS6
  rcases cmpB_three x.1.data.toList y.1.data.toList with ⟨g1, g2⟩ | ⟨g1, g2⟩ | ⟨g1, g2⟩
  · rw [if_neg (by rw [g2]; decide), g2]
    exact ⟨fun _ => .inl g1, fun _ => by decide⟩
  · rw [if_pos g2]
    rcases cmpB_three x.2.1.data.toList y.2.1.data.toList with ⟨k1, k2⟩ | ⟨k1, k2⟩ | ⟨k1, k2⟩
    · rw [k2]
      exact ⟨fun _ => .inr ⟨g1, k1⟩, fun _ => by decide⟩
    · rw [k2]
      refine ⟨fun h => absurd h (by decide), ?_⟩
      rintro (h | ⟨_, h⟩)
      · rw [g1] at h; exact absurd h (List.lt_irrefl _)
      · rw [k1] at h; exact absurd h (List.lt_irrefl _)
    · rw [k2]
      refine ⟨fun h => absurd h (by decide), ?_⟩
      rintro (h | ⟨_, h⟩)
      · rw [g1] at h; exact absurd h (List.lt_irrefl _)
      · exact absurd (List.lt_trans k1 h) (List.lt_irrefl _)
  · rw [if_neg (by rw [g2]; decide), g2]
    refine ⟨fun h => absurd h (by decide), ?_⟩
    rintro (h | ⟨h, _⟩)
    · exact absurd (List.lt_trans g1 h) (List.lt_irrefl _)
    · rw [h] at g1; exact absurd g1 (List.lt_irrefl _)
theorem cS6_le (a b : ByteArray) : -1 ≤ cS6 a b ∧ cS6 a b ≤ 1 := by
  unfold cS6
  rcases cmpB_three a.data.toList b.data.toList with ⟨_, g⟩ | ⟨_, g⟩ | ⟨_, g⟩ <;> rw [g] <;> decide
theorem rotF_size (m : Nat) : ∀ (f i j : Nat) (d : Array Atr), (rotF m f i j d).size = d.size
  | 0, _, _, _ => rfl
  | f + 1, i, j, d => by
    unfold rotF
    split
    · rw [swR_size]
    · split
      · rw [rotF_size m f, swR_size]
      · rw [rotF_size m f, swR_size]
theorem shU_size : ∀ (k i : Nat) (d : Array Atr), (shU i k d).size = d.size
  | 0, _, _ => rfl
  | k + 1, i, d => by unfold shU; rw [shU_size k, size_swp]
theorem shD_size : ∀ (k i : Nat) (d : Array Atr), (shD i k d).size = d.size
  | 0, _, _ => rfl
  | k + 1, i, d => by unfold shD; rw [shD_size k, size_swp]
theorem ite_size {c : Prop} [Decidable c] {x y : Array Atr} {n : Nat} (hx : x.size = n) (hy : y.size = n) : (if c then x else y).size = n := by split <;> assumption
theorem symF_size (lt : Atr → Atr → Bool) : ∀ (f a m b : Nat) (d : Array Atr), (symF lt f a m b d).size = d.size
  | 0, _, _, _, _ => rfl
  | f + 1, a, m, b, d => by
    unfold symF
    split
    · rw [shU_size]
    · split
      · rw [shD_size]
      · dsimp only
        have h1 := fun (c : Prop) [Decidable c] (x y z : Nat) => ite_size (c := c) (x := rotF m x y z d) (y := d) (rotF_size m x y z d) rfl
        have h2 := fun (c c' : Prop) [Decidable c] [Decidable c'] (x y z u v t : Nat) => ite_size (c := c') ((symF_size lt f u v t _).trans (h1 c x y z)) (h1 c x y z)
        exact ite_size ((symF_size lt f _ _ _ _).trans (h2 _ _ _ _ _ _ _ _)) (h2 _ _ _ _ _ _ _ _)
/-- Draws, and blocks behind the heap. -/
def Gr (W W' : World) : Prop := ∃ q os, W' = grow (W.drewN q) os
theorem Gr.refl (W : World) : Gr W W := ⟨0, #[], by rw [grow_empty]; rfl⟩
theorem Gr.alloc {W W' : World} (h : Gr W W') (o : Obj) : Gr W (W'.alloc o) := by
  obtain ⟨q, os, rfl⟩ := h
  exact ⟨q, os ++ #[o], by rw [alloc_eq_grow, grow_grow]⟩
theorem Gr.drewN {W W' : World} (h : Gr W W') (n : Nat) : Gr W (W'.drewN n) := by
  obtain ⟨q, os, rfl⟩ := h
  exact ⟨q + n, os, by show grow ((W.drewN q).drewN n) os = _; rw [World.drewN_drewN]⟩
theorem Gr.drew {W W' : World} (h : Gr W W') : Gr W W'.drew := h.drewN 1
theorem Gr.trans {A B C : World} (h : Gr A B) (g : Gr B C) : Gr A C := by
  obtain ⟨q, os, rfl⟩ := h
  obtain ⟨p, os2, rfl⟩ := g
  refine ⟨q + p, os ++ os2, ?_⟩
  rw [← grow_grow]
  show grow (grow ((A.drewN q).drewN p) os) os2 = _
  rw [World.drewN_drewN]
theorem SWK.gr {w0 W W' : World} {blk off : Nat} {dk : Array Atr} (h : SWK encA 3 w0 blk off dk W) (g : Gr W W') : SWK encA 3 w0 blk off dk W' := by
  obtain ⟨q, os, rfl⟩ := g
  exact h.grown q os
theorem Gr.bel {W W' : World} (h : Gr W W') : Bel W W' := by
  obtain ⟨q, os, rfl⟩ := h
  exact below_grow _ W (Nat.le_refl _) q os
set_option maxRecDepth 100000 in
set_option maxHeartbeats 4000000 in
theorem or_c (a b : Int) (blk : Nat) (w : World) (h : Blk w blk 3 [.int .i64 a, .int .i64 b]) :
    Calls Tryd.prog 33 #[.slice (some ⟨blk, 0, none⟩) 2 2] w fun e w' => e = .returned (.int .i64 (if a = 0 then b else a)) ∧ w' = w := by
  have h0 : w.cell? ⟨blk, 0, none⟩ = some (.int .i64 a) := h.at 0
  have h1 : w.cell? ⟨blk, 1, none⟩ = some (.int .i64 b) := h.at 1
  clear h
  obtain ⟨A, hA⟩ : ∃ A, (a != 0) = A := ⟨_, rfl⟩
  obtain ⟨B, hB⟩ : ∃ A, (b != 0) = A := ⟨_, rfl⟩
  have HR : Hid ((if a = 0 then b else a) = if A = true then a else if B = true then b else 0) := Lib.hid (by
    rw [← hA, ← hB]
    by_cases h1 : a = 0
    · by_cases h2 : b = 0 <;> simp [h1, h2]
    · simp [h1])
  obtain ⟨r, hr⟩ : ∃ r, (if a = 0 then b else a) = r := ⟨_, rfl⟩
  rw [hr] at HR ⊢
  clear hr
  go_enter Tryd.func33, Tryd.ntmps33
  go_wp2_with fail
  go_loopw [8] (fun i wr => ∃ j : Nat, j ≤ 2 ∧ i = .int .i64 j ∧ wr = w ∧ (0 < j → A = false) ∧ (1 < j → B = false)) (fun i _ => 2 - (intOf i).toNat)
  case atStart => exact ⟨0, by omega, rfl, rfl, by omega, by omega⟩
  case round =>
    obtain ⟨j, hj, rfl, rfl, hz, hz2⟩ := hrel
    have hc : j = 0 ∨ j = 1 ∨ j = 2 := by omega
    rcases hc with rfl | rfl | rfl
    · cases A
      · go_wp2_with fail
        exact ⟨⟨1, by omega, by first | rfl | trivial, by first | rfl | trivial, fun _ => by first | rfl | trivial, by omega⟩, by simp [intOf]⟩
      · go_wp2_with fail
        go_ret
        exact ⟨by rw [HR.out]; rfl, rfl⟩
    · obtain rfl := hz (by omega)
      cases B
      · go_wp2_with fail
        exact ⟨⟨2, by omega, by first | rfl | trivial, by first | rfl | trivial, fun _ => by first | rfl | trivial, fun _ => by first | rfl | trivial⟩, by simp [intOf]⟩
      · go_wp2_with fail
        go_ret
        exact ⟨by rw [HR.out]; rfl, rfl⟩
    · obtain rfl := hz (by omega)
      obtain rfl := hz2 (by omega)
      go_wp2_with fail
      go_ret
      exact ⟨by rw [HR.out]; rfl, rfl⟩
theorem load3 {W : World} {b : Nat} {u v z : ByteArray} (h : Blk W b 63 [.string u, .string v, .string z]) : W.cell? ⟨b, 0, none⟩ = some (.string u) ∧ W.cell? ⟨b, 1, none⟩ = some (.string v) := ⟨h.at 0, h.at 1⟩
set_option maxRecDepth 100000 in
set_option maxHeartbeats 8000000 in
theorem sortcmp_c (x y : Atr) (w : World) :
    Calls Tryd.prog 32 #[.agg #[.string x.1, .string x.2.1, .string x.2.2], .agg #[.string y.1, .string y.2.1, .string y.2.2]] w fun e w' => e = .returned (.int .i64 (cmpA x y)) ∧ Gr w w' := by
  obtain ⟨x1, x2, x3⟩ := x
  obtain ⟨y1, y2, y3⟩ := y
  dsimp only
  have HC1 := fun W => Tryd.strings_Compare x1 y1 W
  have HC2 := fun W => Tryd.strings_Compare x2 y2 W
  have hv : cmpA (x1, x2, x3) (y1, y2, y3) = if cS6 x1 y1 = 0 then cS6 x2 y2 else cS6 x1 y1 := rfl
  rw [hv]
  have hr1 := cS6_le x1 y1
  have hr2 := cS6_le x2 y2
  unfold cS6 at hr1 hr2 ⊢
  obtain ⟨c1, hc1⟩ : ∃ c, compareBytes x1.data.toList y1.data.toList = c := ⟨_, rfl⟩
  obtain ⟨c2, hc2⟩ : ∃ c, compareBytes x2.data.toList y2.data.toList = c := ⟨_, rfl⟩
  rw [hc1] at HC1 hr1 ⊢
  rw [hc2] at HC2 hr2 ⊢
  obtain ⟨r, hr⟩ : ∃ r, (if c1 = 0 then c2 else c1) = r := ⟨_, rfl⟩
  rw [hr]
  have HC1' := Lib.hid HC1
  have HC2' := Lib.hid HC2
  obtain ⟨V1, h1, k1, l1, s1⟩ := alloc_step w 63 [.string x1, .string x2, .string x3]
  obtain ⟨V2, h2, k2, l2, s2⟩ := alloc_step V1 63 [.string y1, .string y2, .string y3]
  have g0 : V2.cell? ⟨w.heap.size, 0, none⟩ = some (.string x1) := (k1.bel l2).at 0
  have g1 : V2.cell? ⟨w.heap.size, 1, none⟩ = some (.string x2) := (k1.bel l2).at 1
  rw [s1] at k2
  have g2 : V2.cell? ⟨w.heap.size + 1, 0, none⟩ = some (.string y1) := k2.at 0
  have g3 : V2.cell? ⟨w.heap.size + 1, 1, none⟩ = some (.string y2) := k2.at 1
  have HG : Hid (Gr w V2) := Lib.hid (by rw [← h2, ← h1]; exact ((Gr.refl w).alloc _).alloc _)
  have HV1 := Lib.hid h1
  have HV2 := Lib.hid h2
  clear HC1 HC2 hc1 hc2 hv h1 h2 k1 k2 l1 l2 s1 s2
  go_enter Tryd.func32, Tryd.ntmps32
  go_upto_region 1 with fail
  rw [show (w.alloc (.cells #[.string x1, .string x2, .string x3] 63)).alloc (.cells #[.string y1, .string y2, .string y3] 63) = V2 from by rw [HV1.out, HV2.out]]
  refine wp_region_held_drew (S := fun w' => w'.cell? ⟨w.heap.size, 0, none⟩ = some (.string x1) ∧ w'.cell? ⟨w.heap.size, 1, none⟩ = some (.string x2) ∧ w'.cell? ⟨w.heap.size + 1, 0, none⟩ = some (.string y1) ∧ w'.cell? ⟨w.heap.size + 1, 1, none⟩ = some (.string y2) ∧ Gr V2 w') (by kernel_rfl) ⟨g0, g1, g2, g3, (Gr.refl _).drew⟩ (fun hHeld => ?_)
  refine wpAnyH_take (i := 0) (oi := _) (v := ?_) rfl (by kernel_rfl) (by kernel_rfl) (by kernel_rfl) (fun _ _ _ h => h) ?_ (by assumption) ?_
  rotate_left 1
  · first
      | (refine Or.inl ⟨by rfl, ?_⟩; intro w9 hSw; (try dsimp only at hSw); go_simp; (try with_reducible rfl); done)
      | (refine Or.inr ⟨by rfl, ?_⟩; rfl)
  simp only [List.getElem_toArray, List.getElem_cons_zero, Act.put, List.setIfInBounds_toArray, List.set_cons_zero, List.set_cons_succ]
  refine wpAnyH_take (i := 1) (oi := _) (v := ?_) rfl (by kernel_rfl) (by kernel_rfl) (by kernel_rfl) (fun _ _ _ h => h) ?_ (by assumption) ?_
  rotate_left 1
  · first
      | (refine Or.inl ⟨by rfl, ?_⟩; intro w9 hSw; (try dsimp only at hSw); go_simp; (try with_reducible rfl); done)
      | (refine Or.inr ⟨by rfl, ?_⟩; rfl)
  simp only [List.getElem_toArray, List.getElem_cons_succ, List.getElem_cons_zero, Act.put, List.setIfInBounds_toArray, List.set_cons_zero, List.set_cons_succ]
  refine wpAnyH_take (i := 2) (oi := _) (v := ?_) rfl (by kernel_rfl) (by kernel_rfl) (by kernel_rfl) (fun _ _ _ h => h) ?_ (by assumption) ?_
  rotate_left 1
  · first
      | (refine Or.inl ⟨by rfl, ?_⟩; intro w9 hSw; (try dsimp only at hSw); go_simp; (try with_reducible rfl); done)
      | (refine Or.inr ⟨by rfl, ?_⟩; rfl)
  simp only [List.getElem_toArray, List.getElem_cons_succ, List.getElem_cons_zero, Act.put, List.setIfInBounds_toArray, List.set_cons_zero, List.set_cons_succ]
  refine wpAnyH_take (i := 3) (oi := _) (v := ?_) rfl (by kernel_rfl) (by kernel_rfl) (by kernel_rfl) (fun _ _ _ h => h) ?_ (by assumption) ?_
  rotate_left 1
  · first
      | (refine Or.inl ⟨by rfl, ?_⟩; intro w9 hSw; (try dsimp only at hSw); go_simp; (try with_reducible rfl); done)
      | (refine Or.inr ⟨by rfl, ?_⟩; rfl)
  simp only [List.getElem_toArray, List.getElem_cons_succ, List.getElem_cons_zero, Act.put, List.setIfInBounds_toArray, List.set_cons_zero, List.set_cons_succ]
  refine wpAnyH_take (i := 4) (oi := _) (v := ?_) rfl (by kernel_rfl) (by kernel_rfl) (by kernel_rfl) (fun _ _ _ h => h) ?_ (by assumption) ?_
  rotate_left 1
  · first
      | (refine Or.inl ⟨by rfl, ?_⟩; intro w9 hSw; (try dsimp only at hSw); go_simp; (try with_reducible rfl); done)
      | (refine Or.inr ⟨by rfl, ?_⟩; rfl)
  simp only [List.getElem_toArray, List.getElem_cons_succ, List.getElem_cons_zero, Act.put, List.setIfInBounds_toArray, List.set_cons_zero, List.set_cons_succ]
  refine wpAnyH_take (i := 5) (oi := _) (v := ?_) rfl (by kernel_rfl) (by kernel_rfl) (by kernel_rfl) (fun _ _ _ h => h) ?_ (by assumption) ?_
  rotate_left 1
  · first
      | (refine Or.inl ⟨by rfl, ?_⟩; intro w9 hSw; (try dsimp only at hSw); go_simp; (try with_reducible rfl); done)
      | (refine Or.inr ⟨by rfl, ?_⟩; rfl)
  simp only [List.getElem_toArray, List.getElem_cons_succ, List.getElem_cons_zero, Act.put, List.setIfInBounds_toArray, List.set_cons_zero, List.set_cons_succ]
  refine wpAnyH_take (i := 7) (oi := _) (v := ?_) rfl (by kernel_rfl) (by kernel_rfl) (by kernel_rfl) (fun _ _ _ h => h) ?_ (by assumption) ?_
  rotate_left 1
  · first
      | (refine Or.inl ⟨by rfl, ?_⟩; intro w9 hSw; (try dsimp only at hSw); go_simp; (try with_reducible rfl); done)
      | (refine Or.inr ⟨by rfl, ?_⟩; rfl)
  simp only [List.getElem_toArray, List.getElem_cons_succ, List.getElem_cons_zero, Act.put, List.setIfInBounds_toArray, List.set_cons_zero, List.set_cons_succ]
  refine wpAnyH_take (i := 8) (oi := _) (v := ?_) rfl (by kernel_rfl) (by kernel_rfl) (by kernel_rfl) (fun _ _ _ h => h) ?_ (by assumption) ?_
  rotate_left 1
  · first
      | (refine Or.inl ⟨by rfl, ?_⟩; intro w9 hSw; (try dsimp only at hSw); go_simp; (try with_reducible rfl); done)
      | (refine Or.inr ⟨by rfl, ?_⟩; rfl)
  simp only [List.getElem_toArray, List.getElem_cons_succ, List.getElem_cons_zero, Act.put, List.setIfInBounds_toArray, List.set_cons_zero, List.set_cons_succ]
  refine wpAnyH_take (i := 9) (oi := _) (v := ?_) rfl (by kernel_rfl) (by kernel_rfl) (by kernel_rfl) (fun _ _ _ h => h) ?_ (by assumption) ?_
  rotate_left 1
  · first
      | (refine Or.inl ⟨by rfl, ?_⟩; intro w9 hSw; (try dsimp only at hSw); go_simp; (try with_reducible rfl); done)
      | (refine Or.inr ⟨by rfl, ?_⟩; rfl)
  simp only [List.getElem_toArray, List.getElem_cons_succ, List.getElem_cons_zero, Act.put, List.setIfInBounds_toArray, List.set_cons_zero, List.set_cons_succ]
  refine wpAnyH_take (i := 10) (oi := _) (v := ?_) rfl (by kernel_rfl) (by kernel_rfl) (by kernel_rfl) (fun _ _ _ h => h) ?_ (by assumption) ?_
  rotate_left 1
  · first
      | (refine Or.inl ⟨by rfl, ?_⟩; intro w9 hSw; (try dsimp only at hSw); go_simp; (try with_reducible rfl); done)
      | (refine Or.inr ⟨by rfl, ?_⟩; rfl)
  simp only [List.getElem_toArray, List.getElem_cons_succ, List.getElem_cons_zero, Act.put, List.setIfInBounds_toArray, List.set_cons_zero, List.set_cons_succ]
  refine wpAnyH_take (i := 11) (oi := _) (v := ?_) rfl (by kernel_rfl) (by kernel_rfl) (by kernel_rfl) (fun _ _ _ h => h) ?_ (by assumption) ?_
  rotate_left 1
  · first
      | (refine Or.inl ⟨by rfl, ?_⟩; intro w9 hSw; (try dsimp only at hSw); go_simp; (try with_reducible rfl); done)
      | (refine Or.inr ⟨by rfl, ?_⟩; rfl)
  simp only [List.getElem_toArray, List.getElem_cons_succ, List.getElem_cons_zero, Act.put, List.setIfInBounds_toArray, List.set_cons_zero, List.set_cons_succ]
  refine wpAnyH_take (i := 12) (oi := _) (v := ?_) rfl (by kernel_rfl) (by kernel_rfl) (by kernel_rfl) (fun _ _ _ h => h) ?_ (by assumption) ?_
  rotate_left 1
  · first
      | (refine Or.inl ⟨by rfl, ?_⟩; intro w9 hSw; (try dsimp only at hSw); go_simp; (try with_reducible rfl); done)
      | (refine Or.inr ⟨by rfl, ?_⟩; rfl)
  simp only [List.getElem_toArray, List.getElem_cons_succ, List.getElem_cons_zero, Act.put, List.setIfInBounds_toArray, List.set_cons_zero, List.set_cons_succ]
  refine wpAnyH_ready (rs := [6]) (by kernel_rfl) (by simp) ?_
  refine AllReadyH.cons (o := _) rfl (fun K hK => ?_) AllReadyH.nil
  go_simp
  refine (HC1'.out _).mono ?_
  rintro e3 w3 ⟨rfl, rfl⟩
  dsimp only
  refine hK.out _ _ hHeld (fun hHeld => ?_)
  clear hK K
  refine wpAnyH_ready (rs := [13]) (by kernel_rfl) (by simp) ?_
  refine AllReadyH.cons (o := _) rfl (fun K hK => ?_) AllReadyH.nil
  go_simp
  refine (HC2'.out _).mono ?_
  rintro e4 w4 ⟨rfl, rfl⟩
  dsimp only
  refine hK.out _ _ hHeld (fun hHeld => ?_)
  clear hK K
  refine wpAnyH_ready (rs := [14]) (by kernel_rfl) (by simp) ?_
  refine AllReadyH.cons (o := _) rfl (fun K hK => ?_) AllReadyH.nil
  go_simp
  have HBK : Hid (Blk (V2.alloc (.cells #[.int .i64 c1, .int .i64 c2] 3)) V2.heap.size 3 [.int .i64 c1, .int .i64 c2]) := Lib.hid (Blk.new V2 3 [.int .i64 c1, .int .i64 c2])
  have HOR : Hid (∀ W, Blk W V2.heap.size 3 [.int .i64 c1, .int .i64 c2] → Calls Tryd.prog 33 #[.slice (some ⟨V2.heap.size, 0, none⟩) 2 2] W fun e w' => e = .returned (.int .i64 r) ∧ w' = W) := Lib.hid fun W hW => by
    rw [← hr]
    exact or_c c1 c2 _ W hW
  refine hK.out _ _ ⟨(Bel.alloc V2 _).keep g0, (Bel.alloc V2 _).keep g1, (Bel.alloc V2 _).keep g2, (Bel.alloc V2 _).keep g3, ((Gr.refl V2).alloc _).drew⟩ (fun hHeld => ?_)
  clear hK K hr
  refine wpAnyH_ready (rs := [15]) (by kernel_rfl) (by simp) ?_
  refine AllReadyH.cons (o := _) rfl (fun K hK => ?_) AllReadyH.nil
  go_simp
  refine (HOR.out _ HBK.out.drew).mono ?_
  rintro e5 w5 ⟨rfl, rfl⟩
  dsimp only
  refine hK.out _ _ hHeld (fun hHeld => ?_)
  clear hK K
  refine wpAnyH_take (i := 16) (oi := _) (v := ?_) rfl (by kernel_rfl) (by kernel_rfl) (by kernel_rfl) (fun _ _ _ h => h) ?_ (by assumption) ?_
  rotate_left 1
  · first
      | (refine Or.inl ⟨by rfl, ?_⟩; intro w9 hSw; (try dsimp only at hSw); go_simp; (try with_reducible rfl); done)
      | (refine Or.inr ⟨by rfl, ?_⟩; rfl)
  simp only [List.getElem_toArray, List.getElem_cons_succ, List.getElem_cons_zero, Act.put, List.setIfInBounds_toArray, List.set_cons_zero, List.set_cons_succ]
  refine wpAnyH_done (by kernel_rfl) ?_ _
  have HFG := Lib.hid (HG.out.trans hHeld.2.2.2.2)
  clear hHeld g0 g1 g2 g3
  go_wp2_with fail
  go_ret
  exact ⟨rfl, HFG.out⟩
end Go.Proofs.YtojeclfcgnamoaaDoor
