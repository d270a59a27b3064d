/-
  The stable sort of attributes, walked: insertion, stable, SortStableFunc.
-/
import Derived.Test.YtojeclfcgnamoaaDoorSTH
import Derived.Sort.WalkA
import Derived.BigQuiet
namespace Go.Proofs.YtojeclfcgnamoaaDoor
open Go.RowKit Go.Sort Go.Shelf Go.Lib

theorem insInner_size (a : Nat) : ∀ (j : Nat) (d : Array Atr), (insInner ltA a j d).size = d.size
  | 0, _ => rfl
  | j + 1, d => by
    unfold insInner
    split
    · rw [insInner_size a j, size_swp]
    · rfl
theorem insOuter_size (a b : Nat) : ∀ (n i : Nat) (d : Array Atr), b - i ≤ n → (insOuter ltA a b i d).size = d.size
  | 0, i, d, h => by rw [insOuter_stop _ _ _ _ _ (by omega)]
  | n + 1, i, d, h => by
    by_cases c : i < b
    · rw [insOuter_go _ _ _ _ _ c, insOuter_size a b n (i + 1) _ (by omega), insInner_size]
    · rw [insOuter_stop _ _ _ _ _ c]
theorem insertion_size (a b : Nat) (d : Array Atr) : (insertionSort ltA d a b).size = d.size := insOuter_size a b _ _ d (Nat.le_refl _)
set_option maxRecDepth 100000 in
set_option maxHeartbeats 16000000 in
theorem insertion_s (blk off cap : Nat) (d0 : Array Atr) (w0 : World) (N : Nat) (R : RowK encA 3 w0 blk off d0) (hs : d0.size = N) (hsz : N ≤ 1073741824) (a b : Nat) (d : Array Atr) (w : World) (hds : d.size = N) (S : SWK encA 3 w0 blk off d w) (hab : a ≤ b) (hb : b ≤ N) :
    Calls Tryd.prog 66 #[.slice (some ⟨blk, off, none⟩) N cap, .int .i64 a, .int .i64 b, .func (.func 32) #[] #[]] w fun e w' => e = .returned (.tuple #[]) ∧ SWK encA 3 w0 blk off (insertionSort ltA d a b) w' := by
  have S0 := Lib.hid S
  have HDS := Lib.hid hds
  have HR := Lib.hid R
  have HS0 := Lib.hid hs
  clear S R hs hds
  go_enter Tryd.func66, Tryd.ntmps66
  go_wp2_with fail
  go_loopw [8] (fun x wr => ∃ (i : Nat) (dk : Array Atr), x = .int .i64 i ∧ a < i ∧ i ≤ b + 1 ∧ Hid (dk.size = N) ∧ Hid (SWK encA 3 w0 blk off dk wr) ∧ Hid (insOuter ltA a b i dk = insOuter ltA a b (a + 1) d)) (fun x _ => b + 1 - (intOf x).toNat)
  case atStart => exact ⟨a + 1, d, by go_num, by omega, by omega, HDS, S0, Lib.hid rfl⟩
  case round =>
    obtain ⟨i, dk, rfl, g1, g2, KDS, S1, HO⟩ := hrel
    by_cases hlt : i < b
    · have hlti : (i : Int) < b := by omega
      go_wp2_with fail
      go_loopw [9] (fun x wr => ∃ (j : Nat) (dj : Array Atr), x = .int .i64 j ∧ a ≤ j ∧ j ≤ i ∧ Hid (dj.size = N) ∧ Hid (SWK encA 3 w0 blk off dj wr) ∧ Hid (insInner ltA a j dj = insInner ltA a i dk)) (fun x _ => (intOf x).toNat)
      case atStart => exact ⟨i, dk, rfl, by omega, Nat.le_refl _, KDS, S1, Lib.hid rfl⟩
      case round =>
        obtain ⟨j, dj, rfl, j1, j2, JDS, S2, HI⟩ := hrel
        by_cases hja : a < j
        · have hjai : (a : Int) < j := by omega
          obtain ⟨y, hy⟩ : ∃ y, j - 1 = y := ⟨_, rfl⟩
          have WY : Hid (IntKind.i64.wrap ((j : Int) - 1) = (y : Int)) := Lib.hid (by rw [IntKind.wrap_i64]; omega)
          have hdsz := JDS.out
          have hjN : (j : Int) < N := by omega
          have hyN : (y : Int) < N := by omega
          obtain ⟨cp1, cp2, cp3, _⟩ := swk_cells S2.out HR.out (by have := HS0.out; omega) j (by omega)
          obtain ⟨cq1, cq2, cq3, _⟩ := swk_cells S2.out HR.out (by have := HS0.out; omega) y (by omega)
          obtain ⟨⟨p1, p2, p3⟩, hP⟩ : ∃ q, dj[j]! = q := ⟨_, rfl⟩
          obtain ⟨⟨q1, q2, q3⟩, hQ⟩ : ∃ q, dj[y]! = q := ⟨_, rfl⟩
          rw [hP] at cp1 cp2 cp3
          rw [hQ] at cq1 cq2 cq3
          dsimp only at cp1 cp2 cp3 cq1 cq2 cq3
          have HP := Lib.hid hP
          have HQ := Lib.hid hQ
          obtain ⟨C, hC⟩ : ∃ C, cmpA (p1, p2, p3) (q1, q2, q3) = C := ⟨_, rfl⟩
          have HLT := Lib.hid (ltA_of hC)
          have HCMP : Hid (∀ W, SWK encA 3 w0 blk off dj W → Calls Tryd.prog 32 #[.agg #[.string p1, .string p2, .string p3], .agg #[.string q1, .string q2, .string q3]] W fun e w' => e = .returned (.int .i64 C) ∧ SWK encA 3 w0 blk off dj w') := Lib.hid fun W hW => by rw [← hC]; exact swk_cmp hW (p1, p2, p3) (q1, q2, q3)
          clear hP hQ hC
          obtain ⟨BB, hBB⟩ : ∃ B, decide (C < 0) = B := ⟨_, rfl⟩
          have hp : Hid (ltA dj[j]! dj[y]! = BB) := Lib.hid (by rw [HP.out, HQ.out, HLT.out, hBB])
          have HY := Lib.hid hy
          clear hy
          go_upto_region 4 with fail
          have wy := WY.out
          refine wp_region_held_drew (S := fun w' => w'.cell? ⟨blk, off + j * 3, none⟩ = some (.string p1) ∧ w'.cell? ⟨blk, off + j * 3 + 1, none⟩ = some (.string p2) ∧ w'.cell? ⟨blk, off + j * 3 + 2, none⟩ = some (.string p3) ∧ w'.cell? ⟨blk, off + y * 3, none⟩ = some (.string q1) ∧ w'.cell? ⟨blk, off + y * 3 + 1, none⟩ = some (.string q2) ∧ w'.cell? ⟨blk, off + y * 3 + 2, none⟩ = some (.string q3) ∧ SWK encA 3 w0 blk off dj w') (by kernel_rfl) ⟨cp1, cp2, cp3, cq1, cq2, cq3, S2.out.drew⟩ (fun hHeld => ?_)
          refine wpAnyH_take (i := 0) (oi := _) (v := ?_) rfl (by kernel_rfl) (by kernel_rfl) (by kernel_rfl) (fun _ _ _ h => h) ?_ (by assumption) ?_
          rotate_left 1
          · first
              | (refine Or.inl ⟨by rfl, ?_⟩; intro w9 hSw; (try dsimp only at hSw); go_simp; (try with_reducible rfl); done)
              | (refine Or.inr ⟨by rfl, ?_⟩; rfl)
          simp only [List.getElem_toArray, List.getElem_cons_zero, Act.put, List.setIfInBounds_toArray, List.set_cons_zero, List.set_cons_succ]
          refine wpAnyH_take (i := 1) (oi := _) (v := ?_) rfl (by kernel_rfl) (by kernel_rfl) (by kernel_rfl) (fun _ _ _ h => h) ?_ (by assumption) ?_
          rotate_left 1
          · first
              | (refine Or.inl ⟨by rfl, ?_⟩; intro w9 hSw; (try dsimp only at hSw); go_simp; (try with_reducible rfl); done)
              | (refine Or.inr ⟨by rfl, ?_⟩; rfl)
          simp only [List.getElem_toArray, List.getElem_cons_succ, List.getElem_cons_zero, Act.put, List.setIfInBounds_toArray, List.set_cons_zero, List.set_cons_succ]
          refine wpAnyH_take (i := 2) (oi := _) (v := ?_) rfl (by kernel_rfl) (by kernel_rfl) (by kernel_rfl) (fun _ _ _ h => h) ?_ (by assumption) ?_
          rotate_left 1
          · first
              | (refine Or.inl ⟨by rfl, ?_⟩; intro w9 hSw; (try dsimp only at hSw); go_simp; (try with_reducible rfl); done)
              | (refine Or.inr ⟨by rfl, ?_⟩; rfl)
          simp only [List.getElem_toArray, List.getElem_cons_succ, List.getElem_cons_zero, Act.put, List.setIfInBounds_toArray, List.set_cons_zero, List.set_cons_succ]
          refine wpAnyH_take (i := 3) (oi := _) (v := ?_) rfl (by kernel_rfl) (by kernel_rfl) (by kernel_rfl) (fun _ _ _ h => h) ?_ (by assumption) ?_
          rotate_left 1
          · first
              | (refine Or.inl ⟨by rfl, ?_⟩; intro w9 hSw; (try dsimp only at hSw); go_simp; (try with_reducible rfl); done)
              | (refine Or.inr ⟨by rfl, ?_⟩; rfl)
          simp only [List.getElem_toArray, List.getElem_cons_succ, List.getElem_cons_zero, Act.put, List.setIfInBounds_toArray, List.set_cons_zero, List.set_cons_succ]
          refine wpAnyH_take (i := 4) (oi := _) (v := ?_) rfl (by kernel_rfl) (by kernel_rfl) (by kernel_rfl) (fun _ _ _ h => h) ?_ (by assumption) ?_
          rotate_left 1
          · first
              | (refine Or.inl ⟨by rfl, ?_⟩; intro w9 hSw; (try dsimp only at hSw); go_simp; (try with_reducible rfl); done)
              | (refine Or.inr ⟨by rfl, ?_⟩; rfl)
          simp only [List.getElem_toArray, List.getElem_cons_succ, List.getElem_cons_zero, Act.put, List.setIfInBounds_toArray, List.set_cons_zero, List.set_cons_succ]
          refine wpAnyH_take (i := 5) (oi := _) (v := ?_) rfl (by kernel_rfl) (by kernel_rfl) (by kernel_rfl) (fun _ _ _ h => h) ?_ (by assumption) ?_
          rotate_left 1
          · first
              | (refine Or.inl ⟨by rfl, ?_⟩; intro w9 hSw; (try dsimp only at hSw); go_simp; (try with_reducible rfl); done)
              | (refine Or.inr ⟨by rfl, ?_⟩; rfl)
          simp only [List.getElem_toArray, List.getElem_cons_succ, List.getElem_cons_zero, Act.put, List.setIfInBounds_toArray, List.set_cons_zero, List.set_cons_succ]
          refine wpAnyH_take (i := 6) (oi := _) (v := ?_) rfl (by kernel_rfl) (by kernel_rfl) (by kernel_rfl) (fun _ _ _ h => h) ?_ (by assumption) ?_
          rotate_left 1
          · first
              | (refine Or.inl ⟨by rfl, ?_⟩; intro w9 hSw; (try dsimp only at hSw); go_simp; (try with_reducible rfl); done)
              | (refine Or.inr ⟨by rfl, ?_⟩; rfl)
          simp only [List.getElem_toArray, List.getElem_cons_succ, List.getElem_cons_zero, Act.put, List.setIfInBounds_toArray, List.set_cons_zero, List.set_cons_succ]
          refine wpAnyH_take (i := 7) (oi := _) (v := ?_) rfl (by kernel_rfl) (by kernel_rfl) (by kernel_rfl) (fun _ _ _ h => h) ?_ (by assumption) ?_
          rotate_left 1
          · first
              | (refine Or.inl ⟨by rfl, ?_⟩; intro w9 hSw; (try dsimp only at hSw); go_simp; (try with_reducible rfl); done)
              | (refine Or.inr ⟨by rfl, ?_⟩; rfl)
          simp only [List.getElem_toArray, List.getElem_cons_succ, List.getElem_cons_zero, Act.put, List.setIfInBounds_toArray, List.set_cons_zero, List.set_cons_succ]
          refine wpAnyH_take (i := 8) (oi := _) (v := ?_) rfl (by kernel_rfl) (by kernel_rfl) (by kernel_rfl) (fun _ _ _ h => h) ?_ (by assumption) ?_
          rotate_left 1
          · first
              | (refine Or.inl ⟨by rfl, ?_⟩; intro w9 hSw; (try dsimp only at hSw); go_simp; (try with_reducible rfl); done)
              | (refine Or.inr ⟨by rfl, ?_⟩; rfl)
          simp only [List.getElem_toArray, List.getElem_cons_succ, List.getElem_cons_zero, Act.put, List.setIfInBounds_toArray, List.set_cons_zero, List.set_cons_succ]
          refine wpAnyH_take (i := 9) (oi := _) (v := ?_) rfl (by kernel_rfl) (by kernel_rfl) (by kernel_rfl) (fun _ _ _ h => h) ?_ (by assumption) ?_
          rotate_left 1
          · first
              | (refine Or.inl ⟨by rfl, ?_⟩; intro w9 hSw; (try dsimp only at hSw); go_simp; (try with_reducible rfl); done)
              | (refine Or.inr ⟨by rfl, ?_⟩; rfl)
          simp only [List.getElem_toArray, List.getElem_cons_succ, List.getElem_cons_zero, Act.put, List.setIfInBounds_toArray, List.set_cons_zero, List.set_cons_succ]
          refine wpAnyH_take (i := 10) (oi := _) (v := ?_) rfl (by kernel_rfl) (by kernel_rfl) (by kernel_rfl) (fun _ _ _ h => h) ?_ (by assumption) ?_
          rotate_left 1
          · first
              | (refine Or.inl ⟨by rfl, ?_⟩; intro w9 hSw; (try dsimp only at hSw); go_simp; (try with_reducible rfl); done)
              | (refine Or.inr ⟨by rfl, ?_⟩; rfl)
          simp only [List.getElem_toArray, List.getElem_cons_succ, List.getElem_cons_zero, Act.put, List.setIfInBounds_toArray, List.set_cons_zero, List.set_cons_succ]
          refine wpAnyH_take (i := 11) (oi := _) (v := ?_) rfl (by kernel_rfl) (by kernel_rfl) (by kernel_rfl) (fun _ _ _ h => h) ?_ (by assumption) ?_
          rotate_left 1
          · first
              | (refine Or.inl ⟨by rfl, ?_⟩; intro w9 hSw; (try dsimp only at hSw); go_simp; (try with_reducible rfl); done)
              | (refine Or.inr ⟨by rfl, ?_⟩; rfl)
          simp only [List.getElem_toArray, List.getElem_cons_succ, List.getElem_cons_zero, Act.put, List.setIfInBounds_toArray, List.set_cons_zero, List.set_cons_succ]
          refine wpAnyH_take (i := 12) (oi := _) (v := ?_) rfl (by kernel_rfl) (by kernel_rfl) (by kernel_rfl) (fun _ _ _ h => h) ?_ (by assumption) ?_
          rotate_left 1
          · first
              | (refine Or.inl ⟨by rfl, ?_⟩; intro w9 hSw; (try dsimp only at hSw); go_simp; (try with_reducible rfl); done)
              | (refine Or.inr ⟨by rfl, ?_⟩; rfl)
          simp only [List.getElem_toArray, List.getElem_cons_succ, List.getElem_cons_zero, Act.put, List.setIfInBounds_toArray, List.set_cons_zero, List.set_cons_succ]
          refine wpAnyH_take (i := 13) (oi := _) (v := ?_) rfl (by kernel_rfl) (by kernel_rfl) (by kernel_rfl) (fun _ _ _ h => h) ?_ (by assumption) ?_
          rotate_left 1
          · first
              | (refine Or.inl ⟨by rfl, ?_⟩; intro w9 hSw; (try dsimp only at hSw); go_simp; (try with_reducible rfl); done)
              | (refine Or.inr ⟨by rfl, ?_⟩; rfl)
          simp only [List.getElem_toArray, List.getElem_cons_succ, List.getElem_cons_zero, Act.put, List.setIfInBounds_toArray, List.set_cons_zero, List.set_cons_succ]
          refine wpAnyH_ready (rs := [14]) (by kernel_rfl) (by simp) ?_
          refine AllReadyH.cons (o := _) rfl (fun K hK => ?_) AllReadyH.nil
          go_simp
          refine (HCMP.out _ hHeld.2.2.2.2.2.2).mono ?_
          rintro e8 w8 ⟨rfl, hS8⟩
          dsimp only
          obtain ⟨kp1, kp2, kp3, _⟩ := swk_cells hS8 HR.out (by have := HS0.out; omega) j (by omega)
          obtain ⟨kq1, kq2, kq3, _⟩ := swk_cells hS8 HR.out (by have := HS0.out; omega) y (by omega)
          rw [HP.out] at kp1 kp2 kp3
          rw [HQ.out] at kq1 kq2 kq3
          refine hK.out _ _ ⟨kp1, kp2, kp3, kq1, kq2, kq3, hS8⟩ (fun hHeld => ?_)
          clear hK K
          refine wpAnyH_take (i := 15) (oi := _) (v := ?_) rfl (by kernel_rfl) (by kernel_rfl) (by kernel_rfl) (fun _ _ _ h => h) ?_ (by assumption) ?_
          rotate_left 1
          · first
              | (refine Or.inl ⟨by rfl, ?_⟩; intro w9 hSw; (try dsimp only at hSw); go_simp; (try with_reducible rfl); done)
              | (refine Or.inr ⟨by rfl, ?_⟩; rfl)
          simp only [List.getElem_toArray, List.getElem_cons_succ, List.getElem_cons_zero, Act.put, List.setIfInBounds_toArray, List.set_cons_zero, List.set_cons_succ]
          refine wpAnyH_take (i := 16) (oi := _) (v := ?_) rfl (by kernel_rfl) (by kernel_rfl) (by kernel_rfl) (fun _ _ _ h => h) ?_ (by assumption) ?_
          rotate_left 1
          · first
              | (refine Or.inl ⟨by rfl, ?_⟩; intro w9 hSw; (try dsimp only at hSw); go_simp; (try with_reducible rfl); done)
              | (refine Or.inr ⟨by rfl, ?_⟩; rfl)
          simp only [List.getElem_toArray, List.getElem_cons_succ, List.getElem_cons_zero, Act.put, List.setIfInBounds_toArray, List.set_cons_zero, List.set_cons_succ]
          refine wpAnyH_done (by kernel_rfl) ?_ _
          have ST := Lib.hid hHeld.2.2.2.2.2.2
          clear hHeld
          clear wy hBB
          cases BB with
          | true =>
            clear cp1 cp2 cp3 cq1 cq2 cq3
            have hxy : j ≠ y := by have := HY.out; omega
            clear S2
            have S2 := ST
            clear ST
            generalize w8 = wr at S2 ⊢
            have wy := WY.out
            have SX : Hid (SWK encA 3 w0 blk off (swp dj j y) ((wr.drew.setCells blk (off + j * 3) (encA dj[y]!)).setCells blk (off + y * 3) (encA dj[j]!))) := Lib.hid (S2.out.swapped HR.out j y (by omega) (by omega))
            obtain ⟨cx0, cx1, cx2, fx0, fx1, fx2⟩ := swk_cells S2.out HR.out (by have := HS0.out; omega) j (by omega)
            obtain ⟨cy0, cy1, cy2, fy0, fy1, fy2⟩ := swk_cells S2.out HR.out (by have := HS0.out; omega) y (by omega)
            obtain ⟨⟨x1, x2, x3⟩, hX⟩ : ∃ q, dj[j]! = q := ⟨_, rfl⟩
            obtain ⟨⟨y1, y2, y3⟩, hY⟩ : ∃ q, dj[y]! = q := ⟨_, rfl⟩
            rw [hX] at cx0 cx1 cx2 SX
            rw [hY] at cy0 cy1 cy2 SX
            dsimp only at cx0 cx1 cx2 cy0 cy1 cy2
            have gy0 : (wr.drew.setCells blk (off + j * 3) [.string y1, .string y2, .string y3]).cell? ⟨blk, off + y * 3, none⟩ = some (.string y1) := (far3 wr.drew blk off j y hxy _ _ _ 0 (by decide)).trans cy0
            have gy1 : (wr.drew.setCells blk (off + j * 3) [.string y1, .string y2, .string y3]).cell? ⟨blk, off + y * 3 + 1, none⟩ = some (.string y2) := (far3 wr.drew blk off j y hxy _ _ _ 1 (by decide)).trans cy1
            have gy2 : (wr.drew.setCells blk (off + j * 3) [.string y1, .string y2, .string y3]).cell? ⟨blk, off + y * 3 + 2, none⟩ = some (.string y3) := (far3 wr.drew blk off j y hxy _ _ _ 2 (by decide)).trans cy2
            have hy0 : (wr.drew.setCells blk (off + j * 3) [.string y1, .string y2, .string y3]).frozen? ⟨blk, off + y * 3, none⟩ = false := (World.frozen?_setCells _ _ _ _ _).trans fy0
            have hy1 : (wr.drew.setCells blk (off + j * 3) [.string y1, .string y2, .string y3]).frozen? ⟨blk, off + y * 3 + 1, none⟩ = false := (World.frozen?_setCells _ _ _ _ _).trans fy1
            have hy2 : (wr.drew.setCells blk (off + j * 3) [.string y1, .string y2, .string y3]).frozen? ⟨blk, off + y * 3 + 2, none⟩ = false := (World.frozen?_setCells _ _ _ _ _).trans fy2
            clear hX hY
            clear S2
            go_upto_region 6 with fail
            go_big_region
            rw [swap_world]
            have S3 : Hid (SWK encA 3 w0 blk off (swp dj j y) ((wr.drew.setCells blk (off + j * 3) [.string y1, .string y2, .string y3]).setCells blk (off + y * 3) [.string x1, .string x2, .string x3])) := SX
            generalize ((wr.drew.setCells blk (off + j * 3) [.string y1, .string y2, .string y3]).setCells blk (off + y * 3) [.string x1, .string x2, .string x3]) = w2 at S3 ⊢
            clear SX cx0 cx1 cx2 fx0 fx1 fx2 cy0 cy1 cy2 fy0 fy1 fy2 gy0 gy1 gy2 hy0 hy1 hy2
            go_wp2_with fail
            clear wy
            have hy2 := HY.out
            exact ⟨⟨y, swp dj j y, rfl, by omega, by omega, Lib.hid (by rw [size_swp]; exact JDS.out), S3, Lib.hid (by rw [← HI.out, insInner_go ltA a j dj hja (by rw [HY.out]; exact hp.out), HY.out])⟩, by simp [intOf]; omega⟩
          | false =>
            have hst : insInner ltA a j dj = dj := insInner_stop ltA _ _ _ (.inr (by rw [HY.out]; exact hp.out))
            have HF : Hid (insOuter ltA a b (i + 1) dj = insOuter ltA a b (a + 1) d) := Lib.hid (by rw [← HO.out, insOuter_go _ _ _ _ _ hlt, ← HI.out, hst])
            clear hst
            go_wp2_with fail
            exact ⟨⟨i + 1, dj, by go_num, by omega, by omega, JDS, ST, HF⟩, by simp [intOf]; omega⟩
        · have hjai : ¬ ((a : Int) < j) := by omega
          have hst : insInner ltA a j dj = dj := insInner_stop ltA _ _ _ (.inl (by omega))
          have HF : Hid (insOuter ltA a b (i + 1) dj = insOuter ltA a b (a + 1) d) := Lib.hid (by rw [← HO.out, insOuter_go _ _ _ _ _ hlt, ← HI.out, hst])
          clear hst
          go_wp2_with fail
          go_quiet (fail)
          go_wp2_with fail
          exact ⟨⟨i + 1, dj, by go_num, by omega, by omega, JDS, Lib.hid (S2.out.drewN _), HF⟩, by simp [intOf]; omega⟩
    · have hfin : SWK encA 3 w0 blk off (insertionSort ltA d a b) wr := by
        unfold insertionSort
        rw [← HO.out, insOuter_stop _ _ _ _ _ hlt]
        exact S1.out
      have HFN := Lib.hid hfin
      have hlti : ¬ ((i : Int) < b) := by omega
      clear hfin
      go_wp2_with fail
      go_end0
      exact ⟨rfl, HFN.out⟩
end Go.Proofs.YtojeclfcgnamoaaDoor
