/-
  The stable sort of attributes, walked: symMerge.
-/
import Derived.Test.YtojeclfcgnamoaaDoorST1
import Derived.Sort.WalkA
import Derived.Deep.DeepCutAuto
namespace Go.Proofs.YtojeclfcgnamoaaDoor
open Go.RowKit Go.Sort Go.Shelf Go.Lib

/-- The comparison of two elements of the row, in whatever world of the sort's. -/
theorem swk_cmp {w0 W : World} {blk off : Nat} {dk : Array Atr} (S : SWK encA 3 w0 blk off dk W) (x y : Atr) :
    Calls Tryd.prog 32 #[.agg #[.string x.1, .string x.2.1, .string x.2.2], .agg #[.string y.1, .string y.2.1, .string y.2.2]] W fun e w' => e = .returned (.int .i64 (cmpA x y)) ∧ SWK encA 3 w0 blk off dk w' :=
  (sortcmp_c x y W).mono fun _ _ ⟨h1, h2⟩ => ⟨h1, SWK.gr S h2⟩
theorem ltA_of {x y : Atr} {C : Int} (h : cmpA x y = C) : ltA x y = decide (C < 0) := by
  rw [← h, Bool.eq_iff_iff, decide_eq_true_eq]
  exact (cmpA_lt x y).symm
set_option maxRecDepth 100000 in
set_option maxHeartbeats 16000000 in
theorem symM1_s (blk off cap : Nat) (d0 : Array Atr) (w0 : World) (N : Nat) (R : RowK encA 3 w0 blk off d0) (hs : d0.size = N) (hsz : N ≤ 1073741824) (f : Nat) (ih : (∀ (a m b : Nat) (d : Array Atr) (w : World), d.size = N → SWK encA 3 w0 blk off d w → b - a ≤ f → a < m → m < b → b ≤ N → Calls Tryd.prog 67 #[.slice (some ⟨blk, off, none⟩) N cap, .int .i64 a, .int .i64 m, .int .i64 b, .func (.func 32) #[] #[]] w fun e w' => e = .returned (.tuple #[]) ∧ SWK encA 3 w0 blk off (symF ltA f a m b d) w')) (a m b : Nat) (d : Array Atr) (w : World) (hds : d.size = N) (S : SWK encA 3 w0 blk off d w) (_hf : b - a ≤ f + 1) (h1 : a < m) (h2 : m < b) (h3 : b ≤ N) (c1 : m - a = 1) :
    Calls Tryd.prog 67 #[.slice (some ⟨blk, off, none⟩) N cap, .int .i64 a, .int .i64 m, .int .i64 b, .func (.func 32) #[] #[]] w fun e w' => e = .returned (.tuple #[]) ∧ SWK encA 3 w0 blk off (symF ltA (f + 1) a m b d) w' := by
    have S0 := Lib.hid S
    have HDS := Lib.hid hds
    have IH := Lib.hid ih
    have HR := Lib.hid R
    have HS0 := Lib.hid hs
    clear S ih R hs
    · have c1i : ((m : Int) - a == 1) = true := by
        have : (m : Int) - a = 1 := by omega
        rw [this]; rfl
      have HC1 := Lib.hid c1
      have HF : Hid (symF ltA (f + 1) a m b d = shU a (bs (fun h => ltA d[h]! d[a]!) m b - 1 - a) d) := Lib.hid (by rw [symF, if_pos c1])
      obtain ⟨P, hP0⟩ : ∃ P : Nat → Bool, (fun h : Nat => ltA d[h]! d[a]!) = P := ⟨_, rfl⟩
      have HPF : Hid (∀ h, P h = ltA d[h]! d[a]!) := Lib.hid fun h => by rw [← hP0]
      rw [hP0] at HF
      clear c1 hP0 hds
      go_enter Tryd.func67, Tryd.ntmps67
      go_wp2_with fail
      go_loopw [10, 11] (fun x y wr => ∃ (i j : Nat), x = .int .i64 i ∧ y = .int .i64 j ∧ m ≤ i ∧ i ≤ j ∧ j ≤ b ∧ Hid (SWK encA 3 w0 blk off d wr) ∧ Hid (bs P i j = bs P m b)) (fun x y _ => (intOf y).toNat - (intOf x).toNat)
      case atStart => exact ⟨m, b, rfl, rfl, Nat.le_refl _, by omega, Nat.le_refl _, S0, Lib.hid rfl⟩
      case round =>
        obtain ⟨i, j, rfl, rfl, g1, g2, g3, S1, HB⟩ := hrel
        by_cases hlt : i < j
        · have hlti : (i : Int) < j := by omega
          obtain ⟨h, hh⟩ : ∃ h, (i + j) / 2 = h := ⟨_, rfl⟩
          have hhi : ((i : Int) + j) / 2 = (h : Int) := by omega
          have hb1 : i ≤ h ∧ h < j := by omega
          have HHH := Lib.hid hh
          have HHI := Lib.hid hhi
          clear hh hhi
          go_upto_region 5 with fail
          rw [HHI.out]
          have hdsz := HDS.out
          have hhN : (h : Int) < N := by omega
          have haN : (a : Int) < N := by omega
          obtain ⟨cp1, cp2, cp3, _⟩ := swk_cells S1.out HR.out (by have := HS0.out; omega) h (by omega)
          obtain ⟨cq1, cq2, cq3, _⟩ := swk_cells S1.out HR.out (by have := HS0.out; omega) a (by omega)
          obtain ⟨⟨p1, p2, p3⟩, hP⟩ : ∃ q, d[h]! = q := ⟨_, rfl⟩
          obtain ⟨⟨q1, q2, q3⟩, hQ⟩ : ∃ q, d[a]! = q := ⟨_, rfl⟩
          rw [hP] at cp1 cp2 cp3
          rw [hQ] at cq1 cq2 cq3
          dsimp only at cp1 cp2 cp3 cq1 cq2 cq3
          have HP := Lib.hid hP
          have HQ := Lib.hid hQ
          obtain ⟨C, hC⟩ : ∃ C, cmpA (p1, p2, p3) (q1, q2, q3) = C := ⟨_, rfl⟩
          have HLT := Lib.hid (ltA_of hC)
          have HCMP : Hid (∀ W, SWK encA 3 w0 blk off d W → Calls Tryd.prog 32 #[.agg #[.string p1, .string p2, .string p3], .agg #[.string q1, .string q2, .string q3]] W fun e w' => e = .returned (.int .i64 C) ∧ SWK encA 3 w0 blk off d w') := Lib.hid fun W hW => by rw [← hC]; exact swk_cmp hW (p1, p2, p3) (q1, q2, q3)
          clear hP hQ hC
          clear hdsz
          have hdsz := HDS.out
          by_cases hneg : C < 0
          · have hp : Hid (P h = true) := Lib.hid (by rw [HPF.out h, HP.out, HQ.out, HLT.out]; exact decide_eq_true hneg)
            refine wp_region_held_drew (S := fun w' => w'.cell? ⟨blk, off + h * 3, none⟩ = some (.string p1) ∧ w'.cell? ⟨blk, off + h * 3 + 1, none⟩ = some (.string p2) ∧ w'.cell? ⟨blk, off + h * 3 + 2, none⟩ = some (.string p3) ∧ w'.cell? ⟨blk, off + a * 3, none⟩ = some (.string q1) ∧ w'.cell? ⟨blk, off + a * 3 + 1, none⟩ = some (.string q2) ∧ w'.cell? ⟨blk, off + a * 3 + 2, none⟩ = some (.string q3) ∧ SWK encA 3 w0 blk off d w') (by kernel_rfl) ⟨cp1, cp2, cp3, cq1, cq2, cq3, S1.out.drew⟩ (fun hHeld => ?_)
            refine wpAnyH_take (i := 0) (oi := _) (v := ?_) rfl (by kernel_rfl) (by kernel_rfl) (by kernel_rfl) (fun _ _ _ h => h) ?_ (by assumption) ?_
            rotate_left 1
            · first
                | (refine Or.inl ⟨by rfl, ?_⟩; intro w9 hSw; (try dsimp only at hSw); go_simp; (try with_reducible rfl); done)
                | (refine Or.inr ⟨by rfl, ?_⟩; rfl)
            simp only [List.getElem_toArray, List.getElem_cons_zero, Act.put, List.setIfInBounds_toArray, List.set_cons_zero, List.set_cons_succ]
            refine wpAnyH_take (i := 1) (oi := _) (v := ?_) rfl (by kernel_rfl) (by kernel_rfl) (by kernel_rfl) (fun _ _ _ h => h) ?_ (by assumption) ?_
            rotate_left 1
            · first
                | (refine Or.inl ⟨by rfl, ?_⟩; intro w9 hSw; (try dsimp only at hSw); go_simp; (try with_reducible rfl); done)
                | (refine Or.inr ⟨by rfl, ?_⟩; rfl)
            simp only [List.getElem_toArray, List.getElem_cons_succ, List.getElem_cons_zero, Act.put, List.setIfInBounds_toArray, List.set_cons_zero, List.set_cons_succ]
            refine wpAnyH_take (i := 2) (oi := _) (v := ?_) rfl (by kernel_rfl) (by kernel_rfl) (by kernel_rfl) (fun _ _ _ h => h) ?_ (by assumption) ?_
            rotate_left 1
            · first
                | (refine Or.inl ⟨by rfl, ?_⟩; intro w9 hSw; (try dsimp only at hSw); go_simp; (try with_reducible rfl); done)
                | (refine Or.inr ⟨by rfl, ?_⟩; rfl)
            simp only [List.getElem_toArray, List.getElem_cons_succ, List.getElem_cons_zero, Act.put, List.setIfInBounds_toArray, List.set_cons_zero, List.set_cons_succ]
            refine wpAnyH_take (i := 3) (oi := _) (v := ?_) rfl (by kernel_rfl) (by kernel_rfl) (by kernel_rfl) (fun _ _ _ h => h) ?_ (by assumption) ?_
            rotate_left 1
            · first
                | (refine Or.inl ⟨by rfl, ?_⟩; intro w9 hSw; (try dsimp only at hSw); go_simp; (try with_reducible rfl); done)
                | (refine Or.inr ⟨by rfl, ?_⟩; rfl)
            simp only [List.getElem_toArray, List.getElem_cons_succ, List.getElem_cons_zero, Act.put, List.setIfInBounds_toArray, List.set_cons_zero, List.set_cons_succ]
            refine wpAnyH_take (i := 4) (oi := _) (v := ?_) rfl (by kernel_rfl) (by kernel_rfl) (by kernel_rfl) (fun _ _ _ h => h) ?_ (by assumption) ?_
            rotate_left 1
            · first
                | (refine Or.inl ⟨by rfl, ?_⟩; intro w9 hSw; (try dsimp only at hSw); go_simp; (try with_reducible rfl); done)
                | (refine Or.inr ⟨by rfl, ?_⟩; rfl)
            simp only [List.getElem_toArray, List.getElem_cons_succ, List.getElem_cons_zero, Act.put, List.setIfInBounds_toArray, List.set_cons_zero, List.set_cons_succ]
            refine wpAnyH_take (i := 5) (oi := _) (v := ?_) rfl (by kernel_rfl) (by kernel_rfl) (by kernel_rfl) (fun _ _ _ h => h) ?_ (by assumption) ?_
            rotate_left 1
            · first
                | (refine Or.inl ⟨by rfl, ?_⟩; intro w9 hSw; (try dsimp only at hSw); go_simp; (try with_reducible rfl); done)
                | (refine Or.inr ⟨by rfl, ?_⟩; rfl)
            simp only [List.getElem_toArray, List.getElem_cons_succ, List.getElem_cons_zero, Act.put, List.setIfInBounds_toArray, List.set_cons_zero, List.set_cons_succ]
            refine wpAnyH_take (i := 6) (oi := _) (v := ?_) rfl (by kernel_rfl) (by kernel_rfl) (by kernel_rfl) (fun _ _ _ h => h) ?_ (by assumption) ?_
            rotate_left 1
            · first
                | (refine Or.inl ⟨by rfl, ?_⟩; intro w9 hSw; (try dsimp only at hSw); go_simp; (try with_reducible rfl); done)
                | (refine Or.inr ⟨by rfl, ?_⟩; rfl)
            simp only [List.getElem_toArray, List.getElem_cons_succ, List.getElem_cons_zero, Act.put, List.setIfInBounds_toArray, List.set_cons_zero, List.set_cons_succ]
            refine wpAnyH_take (i := 7) (oi := _) (v := ?_) rfl (by kernel_rfl) (by kernel_rfl) (by kernel_rfl) (fun _ _ _ h => h) ?_ (by assumption) ?_
            rotate_left 1
            · first
                | (refine Or.inl ⟨by rfl, ?_⟩; intro w9 hSw; (try dsimp only at hSw); go_simp; (try with_reducible rfl); done)
                | (refine Or.inr ⟨by rfl, ?_⟩; rfl)
            simp only [List.getElem_toArray, List.getElem_cons_succ, List.getElem_cons_zero, Act.put, List.setIfInBounds_toArray, List.set_cons_zero, List.set_cons_succ]
            refine wpAnyH_take (i := 8) (oi := _) (v := ?_) rfl (by kernel_rfl) (by kernel_rfl) (by kernel_rfl) (fun _ _ _ h => h) ?_ (by assumption) ?_
            rotate_left 1
            · first
                | (refine Or.inl ⟨by rfl, ?_⟩; intro w9 hSw; (try dsimp only at hSw); go_simp; (try with_reducible rfl); done)
                | (refine Or.inr ⟨by rfl, ?_⟩; rfl)
            simp only [List.getElem_toArray, List.getElem_cons_succ, List.getElem_cons_zero, Act.put, List.setIfInBounds_toArray, List.set_cons_zero, List.set_cons_succ]
            refine wpAnyH_ready (rs := [9]) (by kernel_rfl) (by simp) ?_
            refine AllReadyH.cons (o := _) rfl (fun K hK => ?_) AllReadyH.nil
            go_simp
            refine (HCMP.out _ hHeld.2.2.2.2.2.2).mono ?_
            rintro e8 w8 ⟨rfl, hS8⟩
            dsimp only
            obtain ⟨kp1, kp2, kp3, _⟩ := swk_cells hS8 HR.out (by have := HS0.out; omega) h (by omega)
            obtain ⟨kq1, kq2, kq3, _⟩ := swk_cells hS8 HR.out (by have := HS0.out; omega) a (by omega)
            rw [HP.out] at kp1 kp2 kp3
            rw [HQ.out] at kq1 kq2 kq3
            refine hK.out _ _ ⟨kp1, kp2, kp3, kq1, kq2, kq3, hS8⟩ (fun hHeld => ?_)
            clear hK K
            refine wpAnyH_take (i := 10) (oi := _) (v := ?_) rfl (by kernel_rfl) (by kernel_rfl) (by kernel_rfl) (fun _ _ _ h => h) ?_ (by assumption) ?_
            rotate_left 1
            · first
                | (refine Or.inl ⟨by rfl, ?_⟩; intro w9 hSw; (try dsimp only at hSw); go_simp; (try with_reducible rfl); done)
                | (refine Or.inr ⟨by rfl, ?_⟩; rfl)
            simp only [List.getElem_toArray, List.getElem_cons_succ, List.getElem_cons_zero, Act.put, List.setIfInBounds_toArray, List.set_cons_zero, List.set_cons_succ]
            refine wpAnyH_done (by kernel_rfl) ?_ _
            have ST := Lib.hid hHeld.2.2.2.2.2.2
            clear hHeld
            go_wp2_with fail
            exact ⟨⟨h + 1, j, by go_num, rfl, by omega, by omega, g3, ST, Lib.hid (by rw [← HB.out, bs_go _ i j hlt, HHH.out, if_pos hp.out])⟩, by simp [intOf]; omega⟩
          · have hp : Hid (P h = false) := Lib.hid (by rw [HPF.out h, HP.out, HQ.out, HLT.out]; exact decide_eq_false hneg)
            refine wp_region_held_drew (S := fun w' => w'.cell? ⟨blk, off + h * 3, none⟩ = some (.string p1) ∧ w'.cell? ⟨blk, off + h * 3 + 1, none⟩ = some (.string p2) ∧ w'.cell? ⟨blk, off + h * 3 + 2, none⟩ = some (.string p3) ∧ w'.cell? ⟨blk, off + a * 3, none⟩ = some (.string q1) ∧ w'.cell? ⟨blk, off + a * 3 + 1, none⟩ = some (.string q2) ∧ w'.cell? ⟨blk, off + a * 3 + 2, none⟩ = some (.string q3) ∧ SWK encA 3 w0 blk off d w') (by kernel_rfl) ⟨cp1, cp2, cp3, cq1, cq2, cq3, S1.out.drew⟩ (fun hHeld => ?_)
            refine wpAnyH_take (i := 0) (oi := _) (v := ?_) rfl (by kernel_rfl) (by kernel_rfl) (by kernel_rfl) (fun _ _ _ h => h) ?_ (by assumption) ?_
            rotate_left 1
            · first
                | (refine Or.inl ⟨by rfl, ?_⟩; intro w9 hSw; (try dsimp only at hSw); go_simp; (try with_reducible rfl); done)
                | (refine Or.inr ⟨by rfl, ?_⟩; rfl)
            simp only [List.getElem_toArray, List.getElem_cons_zero, Act.put, List.setIfInBounds_toArray, List.set_cons_zero, List.set_cons_succ]
            refine wpAnyH_take (i := 1) (oi := _) (v := ?_) rfl (by kernel_rfl) (by kernel_rfl) (by kernel_rfl) (fun _ _ _ h => h) ?_ (by assumption) ?_
            rotate_left 1
            · first
                | (refine Or.inl ⟨by rfl, ?_⟩; intro w9 hSw; (try dsimp only at hSw); go_simp; (try with_reducible rfl); done)
                | (refine Or.inr ⟨by rfl, ?_⟩; rfl)
            simp only [List.getElem_toArray, List.getElem_cons_succ, List.getElem_cons_zero, Act.put, List.setIfInBounds_toArray, List.set_cons_zero, List.set_cons_succ]
            refine wpAnyH_take (i := 2) (oi := _) (v := ?_) rfl (by kernel_rfl) (by kernel_rfl) (by kernel_rfl) (fun _ _ _ h => h) ?_ (by assumption) ?_
            rotate_left 1
            · first
                | (refine Or.inl ⟨by rfl, ?_⟩; intro w9 hSw; (try dsimp only at hSw); go_simp; (try with_reducible rfl); done)
                | (refine Or.inr ⟨by rfl, ?_⟩; rfl)
            simp only [List.getElem_toArray, List.getElem_cons_succ, List.getElem_cons_zero, Act.put, List.setIfInBounds_toArray, List.set_cons_zero, List.set_cons_succ]
            refine wpAnyH_take (i := 3) (oi := _) (v := ?_) rfl (by kernel_rfl) (by kernel_rfl) (by kernel_rfl) (fun _ _ _ h => h) ?_ (by assumption) ?_
            rotate_left 1
            · first
                | (refine Or.inl ⟨by rfl, ?_⟩; intro w9 hSw; (try dsimp only at hSw); go_simp; (try with_reducible rfl); done)
                | (refine Or.inr ⟨by rfl, ?_⟩; rfl)
            simp only [List.getElem_toArray, List.getElem_cons_succ, List.getElem_cons_zero, Act.put, List.setIfInBounds_toArray, List.set_cons_zero, List.set_cons_succ]
            refine wpAnyH_take (i := 4) (oi := _) (v := ?_) rfl (by kernel_rfl) (by kernel_rfl) (by kernel_rfl) (fun _ _ _ h => h) ?_ (by assumption) ?_
            rotate_left 1
            · first
                | (refine Or.inl ⟨by rfl, ?_⟩; intro w9 hSw; (try dsimp only at hSw); go_simp; (try with_reducible rfl); done)
                | (refine Or.inr ⟨by rfl, ?_⟩; rfl)
            simp only [List.getElem_toArray, List.getElem_cons_succ, List.getElem_cons_zero, Act.put, List.setIfInBounds_toArray, List.set_cons_zero, List.set_cons_succ]
            refine wpAnyH_take (i := 5) (oi := _) (v := ?_) rfl (by kernel_rfl) (by kernel_rfl) (by kernel_rfl) (fun _ _ _ h => h) ?_ (by assumption) ?_
            rotate_left 1
            · first
                | (refine Or.inl ⟨by rfl, ?_⟩; intro w9 hSw; (try dsimp only at hSw); go_simp; (try with_reducible rfl); done)
                | (refine Or.inr ⟨by rfl, ?_⟩; rfl)
            simp only [List.getElem_toArray, List.getElem_cons_succ, List.getElem_cons_zero, Act.put, List.setIfInBounds_toArray, List.set_cons_zero, List.set_cons_succ]
            refine wpAnyH_take (i := 6) (oi := _) (v := ?_) rfl (by kernel_rfl) (by kernel_rfl) (by kernel_rfl) (fun _ _ _ h => h) ?_ (by assumption) ?_
            rotate_left 1
            · first
                | (refine Or.inl ⟨by rfl, ?_⟩; intro w9 hSw; (try dsimp only at hSw); go_simp; (try with_reducible rfl); done)
                | (refine Or.inr ⟨by rfl, ?_⟩; rfl)
            simp only [List.getElem_toArray, List.getElem_cons_succ, List.getElem_cons_zero, Act.put, List.setIfInBounds_toArray, List.set_cons_zero, List.set_cons_succ]
            refine wpAnyH_take (i := 7) (oi := _) (v := ?_) rfl (by kernel_rfl) (by kernel_rfl) (by kernel_rfl) (fun _ _ _ h => h) ?_ (by assumption) ?_
            rotate_left 1
            · first
                | (refine Or.inl ⟨by rfl, ?_⟩; intro w9 hSw; (try dsimp only at hSw); go_simp; (try with_reducible rfl); done)
                | (refine Or.inr ⟨by rfl, ?_⟩; rfl)
            simp only [List.getElem_toArray, List.getElem_cons_succ, List.getElem_cons_zero, Act.put, List.setIfInBounds_toArray, List.set_cons_zero, List.set_cons_succ]
            refine wpAnyH_take (i := 8) (oi := _) (v := ?_) rfl (by kernel_rfl) (by kernel_rfl) (by kernel_rfl) (fun _ _ _ h => h) ?_ (by assumption) ?_
            rotate_left 1
            · first
                | (refine Or.inl ⟨by rfl, ?_⟩; intro w9 hSw; (try dsimp only at hSw); go_simp; (try with_reducible rfl); done)
                | (refine Or.inr ⟨by rfl, ?_⟩; rfl)
            simp only [List.getElem_toArray, List.getElem_cons_succ, List.getElem_cons_zero, Act.put, List.setIfInBounds_toArray, List.set_cons_zero, List.set_cons_succ]
            refine wpAnyH_ready (rs := [9]) (by kernel_rfl) (by simp) ?_
            refine AllReadyH.cons (o := _) rfl (fun K hK => ?_) AllReadyH.nil
            go_simp
            refine (HCMP.out _ hHeld.2.2.2.2.2.2).mono ?_
            rintro e8 w8 ⟨rfl, hS8⟩
            dsimp only
            obtain ⟨kp1, kp2, kp3, _⟩ := swk_cells hS8 HR.out (by have := HS0.out; omega) h (by omega)
            obtain ⟨kq1, kq2, kq3, _⟩ := swk_cells hS8 HR.out (by have := HS0.out; omega) a (by omega)
            rw [HP.out] at kp1 kp2 kp3
            rw [HQ.out] at kq1 kq2 kq3
            refine hK.out _ _ ⟨kp1, kp2, kp3, kq1, kq2, kq3, hS8⟩ (fun hHeld => ?_)
            clear hK K
            refine wpAnyH_take (i := 10) (oi := _) (v := ?_) rfl (by kernel_rfl) (by kernel_rfl) (by kernel_rfl) (fun _ _ _ h => h) ?_ (by assumption) ?_
            rotate_left 1
            · first
                | (refine Or.inl ⟨by rfl, ?_⟩; intro w9 hSw; (try dsimp only at hSw); go_simp; (try with_reducible rfl); done)
                | (refine Or.inr ⟨by rfl, ?_⟩; rfl)
            simp only [List.getElem_toArray, List.getElem_cons_succ, List.getElem_cons_zero, Act.put, List.setIfInBounds_toArray, List.set_cons_zero, List.set_cons_succ]
            refine wpAnyH_done (by kernel_rfl) ?_ _
            have ST := Lib.hid hHeld.2.2.2.2.2.2
            clear hHeld
            go_wp2_with fail
            exact ⟨⟨i, h, rfl, rfl, g1, by omega, by omega, ST, Lib.hid (by rw [← HB.out, bs_go _ i j hlt, HHH.out, if_neg (by rw [hp.out]; decide)])⟩, by simp [intOf]; omega⟩
        · obtain rfl : i = j := by omega
          have hbs : bs P m b = i := by rw [← HB.out, bs_stop _ _ _ (by omega)]
          rw [hbs] at HF
          have ha1 : a + 1 = m := by have := HC1.out; omega
          have hi1 : 1 ≤ i := by omega
          obtain ⟨e, he⟩ : ∃ e, i - 1 = e := ⟨_, rfl⟩
          rw [he] at HF
          have hei : (i : Int) - 1 = (e : Int) := by omega
          have HEI := Lib.hid hei
          have hae : a ≤ e := by omega
          have hen : e < N := by omega
          clear hbs HB he hei hlt
          go_wp2_with fail
          try rw [HEI.out]
          go_loopw [13] (fun x wr => ∃ (k : Nat) (dk : Array Atr), x = .int .i64 k ∧ a ≤ k ∧ k ≤ e ∧ dk.size = N ∧ Hid (SWK encA 3 w0 blk off dk wr) ∧ Hid (shU k (e - k) dk = shU a (e - a) d)) (fun x _ => e - (intOf x).toNat)
          case atStart => exact ⟨a, d, rfl, Nat.le_refl _, hae, HDS.out, S1, Lib.hid rfl⟩
          case round =>
            obtain ⟨k, dk, rfl, k1, k2, kds, S2, HSH⟩ := hrel
            by_cases hlt : k < e
            · have hlti : (k : Int) < (i : Int) - 1 := by have := HEI.out; omega
              obtain ⟨y, hy⟩ : ∃ y, k + 1 = y := ⟨_, rfl⟩
              have hxy : k ≠ y := by omega
              have WY : Hid (IntKind.i64.wrap ((k : Int) + 1) = (y : Int)) := Lib.hid (by rw [IntKind.wrap_i64]; omega)
              have hkN : (k : Int) < N := by omega
              have hyN : (y : Int) < N := by omega
              have SX : Hid (SWK encA 3 w0 blk off (swp dk k y) ((wr.drew.setCells blk (off + k * 3) (encA dk[y]!)).setCells blk (off + y * 3) (encA dk[k]!))) := Lib.hid (S2.out.swapped HR.out k y (by omega) (by omega))
              obtain ⟨cx0, cx1, cx2, fx0, fx1, fx2⟩ := swk_cells S2.out HR.out (by have := HS0.out; omega) k (by omega)
              obtain ⟨cy0, cy1, cy2, fy0, fy1, fy2⟩ := swk_cells S2.out HR.out (by have := HS0.out; omega) y (by omega)
              obtain ⟨⟨x1, x2, x3⟩, hX⟩ : ∃ q, dk[k]! = q := ⟨_, rfl⟩
              obtain ⟨⟨y1, y2, y3⟩, hY⟩ : ∃ q, dk[y]! = q := ⟨_, rfl⟩
              rw [hX] at cx0 cx1 cx2 SX
              rw [hY] at cy0 cy1 cy2 SX
              dsimp only at cx0 cx1 cx2 cy0 cy1 cy2
              have gy0 : (wr.drew.setCells blk (off + k * 3) [.string y1, .string y2, .string y3]).cell? ⟨blk, off + y * 3, none⟩ = some (.string y1) := (far3 wr.drew blk off k y hxy _ _ _ 0 (by decide)).trans cy0
              have gy1 : (wr.drew.setCells blk (off + k * 3) [.string y1, .string y2, .string y3]).cell? ⟨blk, off + y * 3 + 1, none⟩ = some (.string y2) := (far3 wr.drew blk off k y hxy _ _ _ 1 (by decide)).trans cy1
              have gy2 : (wr.drew.setCells blk (off + k * 3) [.string y1, .string y2, .string y3]).cell? ⟨blk, off + y * 3 + 2, none⟩ = some (.string y3) := (far3 wr.drew blk off k y hxy _ _ _ 2 (by decide)).trans cy2
              have hy0 : (wr.drew.setCells blk (off + k * 3) [.string y1, .string y2, .string y3]).frozen? ⟨blk, off + y * 3, none⟩ = false := (World.frozen?_setCells _ _ _ _ _).trans fy0
              have hy1 : (wr.drew.setCells blk (off + k * 3) [.string y1, .string y2, .string y3]).frozen? ⟨blk, off + y * 3 + 1, none⟩ = false := (World.frozen?_setCells _ _ _ _ _).trans fy1
              have hy2 : (wr.drew.setCells blk (off + k * 3) [.string y1, .string y2, .string y3]).frozen? ⟨blk, off + y * 3 + 2, none⟩ = false := (World.frozen?_setCells _ _ _ _ _).trans fy2
              clear hX hY
              have HY := Lib.hid hy
              have wy := WY.out
              clear S2 hy
              go_upto_region 11 with fail
              go_big_region
              rw [swap_world]
              have S3 : Hid (SWK encA 3 w0 blk off (swp dk k y) ((wr.drew.setCells blk (off + k * 3) [.string y1, .string y2, .string y3]).setCells blk (off + y * 3) [.string x1, .string x2, .string x3])) := SX
              generalize ((wr.drew.setCells blk (off + k * 3) [.string y1, .string y2, .string y3]).setCells blk (off + y * 3) [.string x1, .string x2, .string x3]) = w2 at S3 ⊢
              clear SX cx0 cx1 cx2 fx0 fx1 fx2 cy0 cy1 cy2 fy0 fy1 fy2 gy0 gy1 gy2 hy0 hy1 hy2
              clear wy
              go_wp2_with fail
              have hy2 := HY.out
              exact ⟨⟨k + 1, swp dk k y, by go_num, by omega, by omega, by rw [size_swp]; exact kds, S3, Lib.hid (by rw [← HSH.out, show e - k = (e - (k + 1)) + 1 from by omega, ← hy2]; rfl)⟩, by simp [intOf]; omega⟩
            · obtain rfl : k = e := by omega
              have hlti : ¬ ((k : Int) < (i : Int) - 1) := by have := HEI.out; omega
              have hfin : SWK encA 3 w0 blk off (symF ltA (f + 1) a m b d) wr := by
                rw [HF.out, ← HSH.out, Nat.sub_self]
                exact S2.out
              have HFN := Lib.hid hfin
              clear hfin S2 HSH
              go_wp2_with fail
              (try simp only [Exit.inBlock, Exit.then])
              refine bodyPost_ret (results_none rfl _ _ _) rfl ?_
              exact ⟨rfl, HFN.out⟩
set_option maxRecDepth 100000 in
set_option maxHeartbeats 16000000 in
theorem symM2_s (blk off cap : Nat) (d0 : Array Atr) (w0 : World) (N : Nat) (R : RowK encA 3 w0 blk off d0) (hs : d0.size = N) (hsz : N ≤ 1073741824) (f : Nat) (ih : (∀ (a m b : Nat) (d : Array Atr) (w : World), d.size = N → SWK encA 3 w0 blk off d w → b - a ≤ f → a < m → m < b → b ≤ N → Calls Tryd.prog 67 #[.slice (some ⟨blk, off, none⟩) N cap, .int .i64 a, .int .i64 m, .int .i64 b, .func (.func 32) #[] #[]] w fun e w' => e = .returned (.tuple #[]) ∧ SWK encA 3 w0 blk off (symF ltA f a m b d) w')) (a m b : Nat) (d : Array Atr) (w : World) (hds : d.size = N) (S : SWK encA 3 w0 blk off d w) (_hf : b - a ≤ f + 1) (h1 : a < m) (h2 : m < b) (h3 : b ≤ N) (c1 : ¬ m - a = 1) (c2 : b - m = 1) :
    Calls Tryd.prog 67 #[.slice (some ⟨blk, off, none⟩) N cap, .int .i64 a, .int .i64 m, .int .i64 b, .func (.func 32) #[] #[]] w fun e w' => e = .returned (.tuple #[]) ∧ SWK encA 3 w0 blk off (symF ltA (f + 1) a m b d) w' := by
    have S0 := Lib.hid S
    have HDS := Lib.hid hds
    have IH := Lib.hid ih
    have HR := Lib.hid R
    have HS0 := Lib.hid hs
    clear S ih R hs
    · have c1i : ((m : Int) - a == 1) = false := beq_eq_false_iff_ne.2 (by omega)
      have HC1 := Lib.hid c1
      · have c2i : ((b : Int) - m == 1) = true := by
          have : (b : Int) - m = 1 := by omega
          rw [this]; rfl
        have HC2 := Lib.hid c2
        have HF : Hid (symF ltA (f + 1) a m b d = shD m (m - bs (fun h => !ltA d[m]! d[h]!) a m) d) := Lib.hid (by rw [symF, if_neg c1, if_pos c2])
        obtain ⟨P, hP0⟩ : ∃ P : Nat → Bool, (fun h : Nat => !ltA d[m]! d[h]!) = P := ⟨_, rfl⟩
        have HPF : Hid (∀ h, P h = !ltA d[m]! d[h]!) := Lib.hid fun h => by rw [← hP0]
        rw [hP0] at HF
        clear c1 c2 hP0 hds
        go_enter Tryd.func67, Tryd.ntmps67
        go_wp2_with fail
        go_loopw [14, 15] (fun x y wr => ∃ (i j : Nat), x = .int .i64 i ∧ y = .int .i64 j ∧ a ≤ i ∧ i ≤ j ∧ j ≤ m ∧ Hid (SWK encA 3 w0 blk off d wr) ∧ Hid (bs P i j = bs P a m)) (fun x y _ => (intOf y).toNat - (intOf x).toNat)
        case atStart => exact ⟨a, m, rfl, rfl, Nat.le_refl _, by omega, Nat.le_refl _, S0, Lib.hid rfl⟩
        case round =>
          obtain ⟨i, j, rfl, rfl, g1, g2, g3, S1, HB⟩ := hrel
          by_cases hlt : i < j
          · have hlti : (i : Int) < j := by omega
            obtain ⟨h, hh⟩ : ∃ h, (i + j) / 2 = h := ⟨_, rfl⟩
            have hhi : ((i : Int) + j) / 2 = (h : Int) := by omega
            have hb1 : i ≤ h ∧ h < j := by omega
            have HHH := Lib.hid hh
            have HHI := Lib.hid hhi
            clear hh hhi
            go_upto_region 17 with fail
            rw [HHI.out]
            have hdsz := HDS.out
            have hhN : (h : Int) < N := by omega
            have hmN : (m : Int) < N := by omega
            obtain ⟨cp1, cp2, cp3, _⟩ := swk_cells S1.out HR.out (by have := HS0.out; omega) m (by omega)
            obtain ⟨cq1, cq2, cq3, _⟩ := swk_cells S1.out HR.out (by have := HS0.out; omega) h (by omega)
            obtain ⟨⟨p1, p2, p3⟩, hP⟩ : ∃ q, d[m]! = q := ⟨_, rfl⟩
            obtain ⟨⟨q1, q2, q3⟩, hQ⟩ : ∃ q, d[h]! = q := ⟨_, rfl⟩
            rw [hP] at cp1 cp2 cp3
            rw [hQ] at cq1 cq2 cq3
            dsimp only at cp1 cp2 cp3 cq1 cq2 cq3
            have HP := Lib.hid hP
            have HQ := Lib.hid hQ
            obtain ⟨C, hC⟩ : ∃ C, cmpA (p1, p2, p3) (q1, q2, q3) = C := ⟨_, rfl⟩
            have HLT := Lib.hid (ltA_of hC)
            have HCMP : Hid (∀ W, SWK encA 3 w0 blk off d W → Calls Tryd.prog 32 #[.agg #[.string p1, .string p2, .string p3], .agg #[.string q1, .string q2, .string q3]] W fun e w' => e = .returned (.int .i64 C) ∧ SWK encA 3 w0 blk off d w') := Lib.hid fun W hW => by rw [← hC]; exact swk_cmp hW (p1, p2, p3) (q1, q2, q3)
            clear hP hQ hC
            by_cases hneg : C < 0
            · have hp : Hid (P h = false) := Lib.hid (by rw [HPF.out h, HP.out, HQ.out, HLT.out, decide_eq_true hneg]; rfl)
              refine wp_region_held_drew (S := fun w' => w'.cell? ⟨blk, off + m * 3, none⟩ = some (.string p1) ∧ w'.cell? ⟨blk, off + m * 3 + 1, none⟩ = some (.string p2) ∧ w'.cell? ⟨blk, off + m * 3 + 2, none⟩ = some (.string p3) ∧ w'.cell? ⟨blk, off + h * 3, none⟩ = some (.string q1) ∧ w'.cell? ⟨blk, off + h * 3 + 1, none⟩ = some (.string q2) ∧ w'.cell? ⟨blk, off + h * 3 + 2, none⟩ = some (.string q3) ∧ SWK encA 3 w0 blk off d w') (by kernel_rfl) ⟨cp1, cp2, cp3, cq1, cq2, cq3, S1.out.drew⟩ (fun hHeld => ?_)
              refine wpAnyH_take (i := 0) (oi := _) (v := ?_) rfl (by kernel_rfl) (by kernel_rfl) (by kernel_rfl) (fun _ _ _ h => h) ?_ (by assumption) ?_
              rotate_left 1
              · first
                  | (refine Or.inl ⟨by rfl, ?_⟩; intro w9 hSw; (try dsimp only at hSw); go_simp; (try with_reducible rfl); done)
                  | (refine Or.inr ⟨by rfl, ?_⟩; rfl)
              simp only [List.getElem_toArray, List.getElem_cons_zero, Act.put, List.setIfInBounds_toArray, List.set_cons_zero, List.set_cons_succ]
              refine wpAnyH_take (i := 1) (oi := _) (v := ?_) rfl (by kernel_rfl) (by kernel_rfl) (by kernel_rfl) (fun _ _ _ h => h) ?_ (by assumption) ?_
              rotate_left 1
              · first
                  | (refine Or.inl ⟨by rfl, ?_⟩; intro w9 hSw; (try dsimp only at hSw); go_simp; (try with_reducible rfl); done)
                  | (refine Or.inr ⟨by rfl, ?_⟩; rfl)
              simp only [List.getElem_toArray, List.getElem_cons_succ, List.getElem_cons_zero, Act.put, List.setIfInBounds_toArray, List.set_cons_zero, List.set_cons_succ]
              refine wpAnyH_take (i := 2) (oi := _) (v := ?_) rfl (by kernel_rfl) (by kernel_rfl) (by kernel_rfl) (fun _ _ _ h => h) ?_ (by assumption) ?_
              rotate_left 1
              · first
                  | (refine Or.inl ⟨by rfl, ?_⟩; intro w9 hSw; (try dsimp only at hSw); go_simp; (try with_reducible rfl); done)
                  | (refine Or.inr ⟨by rfl, ?_⟩; rfl)
              simp only [List.getElem_toArray, List.getElem_cons_succ, List.getElem_cons_zero, Act.put, List.setIfInBounds_toArray, List.set_cons_zero, List.set_cons_succ]
              refine wpAnyH_take (i := 3) (oi := _) (v := ?_) rfl (by kernel_rfl) (by kernel_rfl) (by kernel_rfl) (fun _ _ _ h => h) ?_ (by assumption) ?_
              rotate_left 1
              · first
                  | (refine Or.inl ⟨by rfl, ?_⟩; intro w9 hSw; (try dsimp only at hSw); go_simp; (try with_reducible rfl); done)
                  | (refine Or.inr ⟨by rfl, ?_⟩; rfl)
              simp only [List.getElem_toArray, List.getElem_cons_succ, List.getElem_cons_zero, Act.put, List.setIfInBounds_toArray, List.set_cons_zero, List.set_cons_succ]
              refine wpAnyH_take (i := 4) (oi := _) (v := ?_) rfl (by kernel_rfl) (by kernel_rfl) (by kernel_rfl) (fun _ _ _ h => h) ?_ (by assumption) ?_
              rotate_left 1
              · first
                  | (refine Or.inl ⟨by rfl, ?_⟩; intro w9 hSw; (try dsimp only at hSw); go_simp; (try with_reducible rfl); done)
                  | (refine Or.inr ⟨by rfl, ?_⟩; rfl)
              simp only [List.getElem_toArray, List.getElem_cons_succ, List.getElem_cons_zero, Act.put, List.setIfInBounds_toArray, List.set_cons_zero, List.set_cons_succ]
              refine wpAnyH_take (i := 5) (oi := _) (v := ?_) rfl (by kernel_rfl) (by kernel_rfl) (by kernel_rfl) (fun _ _ _ h => h) ?_ (by assumption) ?_
              rotate_left 1
              · first
                  | (refine Or.inl ⟨by rfl, ?_⟩; intro w9 hSw; (try dsimp only at hSw); go_simp; (try with_reducible rfl); done)
                  | (refine Or.inr ⟨by rfl, ?_⟩; rfl)
              simp only [List.getElem_toArray, List.getElem_cons_succ, List.getElem_cons_zero, Act.put, List.setIfInBounds_toArray, List.set_cons_zero, List.set_cons_succ]
              refine wpAnyH_take (i := 6) (oi := _) (v := ?_) rfl (by kernel_rfl) (by kernel_rfl) (by kernel_rfl) (fun _ _ _ h => h) ?_ (by assumption) ?_
              rotate_left 1
              · first
                  | (refine Or.inl ⟨by rfl, ?_⟩; intro w9 hSw; (try dsimp only at hSw); go_simp; (try with_reducible rfl); done)
                  | (refine Or.inr ⟨by rfl, ?_⟩; rfl)
              simp only [List.getElem_toArray, List.getElem_cons_succ, List.getElem_cons_zero, Act.put, List.setIfInBounds_toArray, List.set_cons_zero, List.set_cons_succ]
              refine wpAnyH_take (i := 7) (oi := _) (v := ?_) rfl (by kernel_rfl) (by kernel_rfl) (by kernel_rfl) (fun _ _ _ h => h) ?_ (by assumption) ?_
              rotate_left 1
              · first
                  | (refine Or.inl ⟨by rfl, ?_⟩; intro w9 hSw; (try dsimp only at hSw); go_simp; (try with_reducible rfl); done)
                  | (refine Or.inr ⟨by rfl, ?_⟩; rfl)
              simp only [List.getElem_toArray, List.getElem_cons_succ, List.getElem_cons_zero, Act.put, List.setIfInBounds_toArray, List.set_cons_zero, List.set_cons_succ]
              refine wpAnyH_take (i := 8) (oi := _) (v := ?_) rfl (by kernel_rfl) (by kernel_rfl) (by kernel_rfl) (fun _ _ _ h => h) ?_ (by assumption) ?_
              rotate_left 1
              · first
                  | (refine Or.inl ⟨by rfl, ?_⟩; intro w9 hSw; (try dsimp only at hSw); go_simp; (try with_reducible rfl); done)
                  | (refine Or.inr ⟨by rfl, ?_⟩; rfl)
              simp only [List.getElem_toArray, List.getElem_cons_succ, List.getElem_cons_zero, Act.put, List.setIfInBounds_toArray, List.set_cons_zero, List.set_cons_succ]
              refine wpAnyH_ready (rs := [9]) (by kernel_rfl) (by simp) ?_
              refine AllReadyH.cons (o := _) rfl (fun K hK => ?_) AllReadyH.nil
              go_simp
              refine (HCMP.out _ hHeld.2.2.2.2.2.2).mono ?_
              rintro e8 w8 ⟨rfl, hS8⟩
              dsimp only
              obtain ⟨kp1, kp2, kp3, _⟩ := swk_cells hS8 HR.out (by have := HS0.out; omega) m (by omega)
              obtain ⟨kq1, kq2, kq3, _⟩ := swk_cells hS8 HR.out (by have := HS0.out; omega) h (by omega)
              rw [HP.out] at kp1 kp2 kp3
              rw [HQ.out] at kq1 kq2 kq3
              refine hK.out _ _ ⟨kp1, kp2, kp3, kq1, kq2, kq3, hS8⟩ (fun hHeld => ?_)
              clear hK K
              refine wpAnyH_take (i := 10) (oi := _) (v := ?_) rfl (by kernel_rfl) (by kernel_rfl) (by kernel_rfl) (fun _ _ _ h => h) ?_ (by assumption) ?_
              rotate_left 1
              · first
                  | (refine Or.inl ⟨by rfl, ?_⟩; intro w9 hSw; (try dsimp only at hSw); go_simp; (try with_reducible rfl); done)
                  | (refine Or.inr ⟨by rfl, ?_⟩; rfl)
              simp only [List.getElem_toArray, List.getElem_cons_succ, List.getElem_cons_zero, Act.put, List.setIfInBounds_toArray, List.set_cons_zero, List.set_cons_succ]
              refine wpAnyH_take (i := 11) (oi := _) (v := ?_) rfl (by kernel_rfl) (by kernel_rfl) (by kernel_rfl) (fun _ _ _ h => h) ?_ (by assumption) ?_
              rotate_left 1
              · first
                  | (refine Or.inl ⟨by rfl, ?_⟩; intro w9 hSw; (try dsimp only at hSw); go_simp; (try with_reducible rfl); done)
                  | (refine Or.inr ⟨by rfl, ?_⟩; rfl)
              simp only [List.getElem_toArray, List.getElem_cons_succ, List.getElem_cons_zero, Act.put, List.setIfInBounds_toArray, List.set_cons_zero, List.set_cons_succ]
              refine wpAnyH_done (by kernel_rfl) ?_ _
              have ST := Lib.hid hHeld.2.2.2.2.2.2
              clear hHeld
              go_wp2_with fail
              exact ⟨⟨i, h, rfl, rfl, g1, by omega, by omega, ST, Lib.hid (by rw [← HB.out, bs_go _ i j hlt, HHH.out, if_neg (by rw [hp.out]; decide)])⟩, by simp [intOf]; omega⟩
            · have hp : Hid (P h = true) := Lib.hid (by rw [HPF.out h, HP.out, HQ.out, HLT.out, decide_eq_false hneg]; rfl)
              refine wp_region_held_drew (S := fun w' => w'.cell? ⟨blk, off + m * 3, none⟩ = some (.string p1) ∧ w'.cell? ⟨blk, off + m * 3 + 1, none⟩ = some (.string p2) ∧ w'.cell? ⟨blk, off + m * 3 + 2, none⟩ = some (.string p3) ∧ w'.cell? ⟨blk, off + h * 3, none⟩ = some (.string q1) ∧ w'.cell? ⟨blk, off + h * 3 + 1, none⟩ = some (.string q2) ∧ w'.cell? ⟨blk, off + h * 3 + 2, none⟩ = some (.string q3) ∧ SWK encA 3 w0 blk off d w') (by kernel_rfl) ⟨cp1, cp2, cp3, cq1, cq2, cq3, S1.out.drew⟩ (fun hHeld => ?_)
              refine wpAnyH_take (i := 0) (oi := _) (v := ?_) rfl (by kernel_rfl) (by kernel_rfl) (by kernel_rfl) (fun _ _ _ h => h) ?_ (by assumption) ?_
              rotate_left 1
              · first
                  | (refine Or.inl ⟨by rfl, ?_⟩; intro w9 hSw; (try dsimp only at hSw); go_simp; (try with_reducible rfl); done)
                  | (refine Or.inr ⟨by rfl, ?_⟩; rfl)
              simp only [List.getElem_toArray, List.getElem_cons_zero, Act.put, List.setIfInBounds_toArray, List.set_cons_zero, List.set_cons_succ]
              refine wpAnyH_take (i := 1) (oi := _) (v := ?_) rfl (by kernel_rfl) (by kernel_rfl) (by kernel_rfl) (fun _ _ _ h => h) ?_ (by assumption) ?_
              rotate_left 1
              · first
                  | (refine Or.inl ⟨by rfl, ?_⟩; intro w9 hSw; (try dsimp only at hSw); go_simp; (try with_reducible rfl); done)
                  | (refine Or.inr ⟨by rfl, ?_⟩; rfl)
              simp only [List.getElem_toArray, List.getElem_cons_succ, List.getElem_cons_zero, Act.put, List.setIfInBounds_toArray, List.set_cons_zero, List.set_cons_succ]
              refine wpAnyH_take (i := 2) (oi := _) (v := ?_) rfl (by kernel_rfl) (by kernel_rfl) (by kernel_rfl) (fun _ _ _ h => h) ?_ (by assumption) ?_
              rotate_left 1
              · first
                  | (refine Or.inl ⟨by rfl, ?_⟩; intro w9 hSw; (try dsimp only at hSw); go_simp; (try with_reducible rfl); done)
                  | (refine Or.inr ⟨by rfl, ?_⟩; rfl)
              simp only [List.getElem_toArray, List.getElem_cons_succ, List.getElem_cons_zero, Act.put, List.setIfInBounds_toArray, List.set_cons_zero, List.set_cons_succ]
              refine wpAnyH_take (i := 3) (oi := _) (v := ?_) rfl (by kernel_rfl) (by kernel_rfl) (by kernel_rfl) (fun _ _ _ h => h) ?_ (by assumption) ?_
              rotate_left 1
              · first
                  | (refine Or.inl ⟨by rfl, ?_⟩; intro w9 hSw; (try dsimp only at hSw); go_simp; (try with_reducible rfl); done)
                  | (refine Or.inr ⟨by rfl, ?_⟩; rfl)
              simp only [List.getElem_toArray, List.getElem_cons_succ, List.getElem_cons_zero, Act.put, List.setIfInBounds_toArray, List.set_cons_zero, List.set_cons_succ]
              refine wpAnyH_take (i := 4) (oi := _) (v := ?_) rfl (by kernel_rfl) (by kernel_rfl) (by kernel_rfl) (fun _ _ _ h => h) ?_ (by assumption) ?_
              rotate_left 1
              · first
                  | (refine Or.inl ⟨by rfl, ?_⟩; intro w9 hSw; (try dsimp only at hSw); go_simp; (try with_reducible rfl); done)
                  | (refine Or.inr ⟨by rfl, ?_⟩; rfl)
              simp only [List.getElem_toArray, List.getElem_cons_succ, List.getElem_cons_zero, Act.put, List.setIfInBounds_toArray, List.set_cons_zero, List.set_cons_succ]
              refine wpAnyH_take (i := 5) (oi := _) (v := ?_) rfl (by kernel_rfl) (by kernel_rfl) (by kernel_rfl) (fun _ _ _ h => h) ?_ (by assumption) ?_
              rotate_left 1
              · first
                  | (refine Or.inl ⟨by rfl, ?_⟩; intro w9 hSw; (try dsimp only at hSw); go_simp; (try with_reducible rfl); done)
                  | (refine Or.inr ⟨by rfl, ?_⟩; rfl)
              simp only [List.getElem_toArray, List.getElem_cons_succ, List.getElem_cons_zero, Act.put, List.setIfInBounds_toArray, List.set_cons_zero, List.set_cons_succ]
              refine wpAnyH_take (i := 6) (oi := _) (v := ?_) rfl (by kernel_rfl) (by kernel_rfl) (by kernel_rfl) (fun _ _ _ h => h) ?_ (by assumption) ?_
              rotate_left 1
              · first
                  | (refine Or.inl ⟨by rfl, ?_⟩; intro w9 hSw; (try dsimp only at hSw); go_simp; (try with_reducible rfl); done)
                  | (refine Or.inr ⟨by rfl, ?_⟩; rfl)
              simp only [List.getElem_toArray, List.getElem_cons_succ, List.getElem_cons_zero, Act.put, List.setIfInBounds_toArray, List.set_cons_zero, List.set_cons_succ]
              refine wpAnyH_take (i := 7) (oi := _) (v := ?_) rfl (by kernel_rfl) (by kernel_rfl) (by kernel_rfl) (fun _ _ _ h => h) ?_ (by assumption) ?_
              rotate_left 1
              · first
                  | (refine Or.inl ⟨by rfl, ?_⟩; intro w9 hSw; (try dsimp only at hSw); go_simp; (try with_reducible rfl); done)
                  | (refine Or.inr ⟨by rfl, ?_⟩; rfl)
              simp only [List.getElem_toArray, List.getElem_cons_succ, List.getElem_cons_zero, Act.put, List.setIfInBounds_toArray, List.set_cons_zero, List.set_cons_succ]
              refine wpAnyH_take (i := 8) (oi := _) (v := ?_) rfl (by kernel_rfl) (by kernel_rfl) (by kernel_rfl) (fun _ _ _ h => h) ?_ (by assumption) ?_
              rotate_left 1
              · first
                  | (refine Or.inl ⟨by rfl, ?_⟩; intro w9 hSw; (try dsimp only at hSw); go_simp; (try with_reducible rfl); done)
                  | (refine Or.inr ⟨by rfl, ?_⟩; rfl)
              simp only [List.getElem_toArray, List.getElem_cons_succ, List.getElem_cons_zero, Act.put, List.setIfInBounds_toArray, List.set_cons_zero, List.set_cons_succ]
              refine wpAnyH_ready (rs := [9]) (by kernel_rfl) (by simp) ?_
              refine AllReadyH.cons (o := _) rfl (fun K hK => ?_) AllReadyH.nil
              go_simp
              refine (HCMP.out _ hHeld.2.2.2.2.2.2).mono ?_
              rintro e8 w8 ⟨rfl, hS8⟩
              dsimp only
              obtain ⟨kp1, kp2, kp3, _⟩ := swk_cells hS8 HR.out (by have := HS0.out; omega) m (by omega)
              obtain ⟨kq1, kq2, kq3, _⟩ := swk_cells hS8 HR.out (by have := HS0.out; omega) h (by omega)
              rw [HP.out] at kp1 kp2 kp3
              rw [HQ.out] at kq1 kq2 kq3
              refine hK.out _ _ ⟨kp1, kp2, kp3, kq1, kq2, kq3, hS8⟩ (fun hHeld => ?_)
              clear hK K
              refine wpAnyH_take (i := 10) (oi := _) (v := ?_) rfl (by kernel_rfl) (by kernel_rfl) (by kernel_rfl) (fun _ _ _ h => h) ?_ (by assumption) ?_
              rotate_left 1
              · first
                  | (refine Or.inl ⟨by rfl, ?_⟩; intro w9 hSw; (try dsimp only at hSw); go_simp; (try with_reducible rfl); done)
                  | (refine Or.inr ⟨by rfl, ?_⟩; rfl)
              simp only [List.getElem_toArray, List.getElem_cons_succ, List.getElem_cons_zero, Act.put, List.setIfInBounds_toArray, List.set_cons_zero, List.set_cons_succ]
              refine wpAnyH_take (i := 11) (oi := _) (v := ?_) rfl (by kernel_rfl) (by kernel_rfl) (by kernel_rfl) (fun _ _ _ h => h) ?_ (by assumption) ?_
              rotate_left 1
              · first
                  | (refine Or.inl ⟨by rfl, ?_⟩; intro w9 hSw; (try dsimp only at hSw); go_simp; (try with_reducible rfl); done)
                  | (refine Or.inr ⟨by rfl, ?_⟩; rfl)
              simp only [List.getElem_toArray, List.getElem_cons_succ, List.getElem_cons_zero, Act.put, List.setIfInBounds_toArray, List.set_cons_zero, List.set_cons_succ]
              refine wpAnyH_done (by kernel_rfl) ?_ _
              have ST := Lib.hid hHeld.2.2.2.2.2.2
              clear hHeld
              go_wp2_with fail
              exact ⟨⟨h + 1, j, by go_num, rfl, by omega, by omega, g3, ST, Lib.hid (by rw [← HB.out, bs_go _ i j hlt, HHH.out, if_pos hp.out])⟩, by simp [intOf]; omega⟩
          · obtain rfl : i = j := by omega
            have hbs : bs P a m = i := by rw [← HB.out, bs_stop _ _ _ (by omega)]
            rw [hbs] at HF
            clear hbs HB hlt
            go_wp2_with fail
            go_loopw [17] (fun x wr => ∃ (k : Nat) (dk : Array Atr), x = .int .i64 k ∧ i ≤ k ∧ k ≤ m ∧ dk.size = N ∧ Hid (SWK encA 3 w0 blk off dk wr) ∧ Hid (shD k (k - i) dk = shD m (m - i) d)) (fun x _ => (intOf x).toNat - i)
            case atStart => exact ⟨m, d, rfl, g3, Nat.le_refl _, HDS.out, S1, Lib.hid rfl⟩
            case round =>
              obtain ⟨k, dk, rfl, k1, k2, kds, S2, HSH⟩ := hrel
              by_cases hlt : i < k
              · have hlti : (i : Int) < (k : Int) := by omega
                obtain ⟨y, hy⟩ : ∃ y, k - 1 = y := ⟨_, rfl⟩
                have hxy : k ≠ y := by omega
                have WY : Hid (IntKind.i64.wrap ((k : Int) - 1) = (y : Int)) := Lib.hid (by rw [IntKind.wrap_i64]; omega)
                have hkN : (k : Int) < N := by omega
                have hyN : (y : Int) < N := by omega
                have SX : Hid (SWK encA 3 w0 blk off (swp dk k y) ((wr.drew.setCells blk (off + k * 3) (encA dk[y]!)).setCells blk (off + y * 3) (encA dk[k]!))) := Lib.hid (S2.out.swapped HR.out k y (by omega) (by omega))
                obtain ⟨cx0, cx1, cx2, fx0, fx1, fx2⟩ := swk_cells S2.out HR.out (by have := HS0.out; omega) k (by omega)
                obtain ⟨cy0, cy1, cy2, fy0, fy1, fy2⟩ := swk_cells S2.out HR.out (by have := HS0.out; omega) y (by omega)
                obtain ⟨⟨x1, x2, x3⟩, hX⟩ : ∃ q, dk[k]! = q := ⟨_, rfl⟩
                obtain ⟨⟨y1, y2, y3⟩, hY⟩ : ∃ q, dk[y]! = q := ⟨_, rfl⟩
                rw [hX] at cx0 cx1 cx2 SX
                rw [hY] at cy0 cy1 cy2 SX
                dsimp only at cx0 cx1 cx2 cy0 cy1 cy2
                have gy0 : (wr.drew.setCells blk (off + k * 3) [.string y1, .string y2, .string y3]).cell? ⟨blk, off + y * 3, none⟩ = some (.string y1) := (far3 wr.drew blk off k y hxy _ _ _ 0 (by decide)).trans cy0
                have gy1 : (wr.drew.setCells blk (off + k * 3) [.string y1, .string y2, .string y3]).cell? ⟨blk, off + y * 3 + 1, none⟩ = some (.string y2) := (far3 wr.drew blk off k y hxy _ _ _ 1 (by decide)).trans cy1
                have gy2 : (wr.drew.setCells blk (off + k * 3) [.string y1, .string y2, .string y3]).cell? ⟨blk, off + y * 3 + 2, none⟩ = some (.string y3) := (far3 wr.drew blk off k y hxy _ _ _ 2 (by decide)).trans cy2
                have hy0 : (wr.drew.setCells blk (off + k * 3) [.string y1, .string y2, .string y3]).frozen? ⟨blk, off + y * 3, none⟩ = false := (World.frozen?_setCells _ _ _ _ _).trans fy0
                have hy1 : (wr.drew.setCells blk (off + k * 3) [.string y1, .string y2, .string y3]).frozen? ⟨blk, off + y * 3 + 1, none⟩ = false := (World.frozen?_setCells _ _ _ _ _).trans fy1
                have hy2 : (wr.drew.setCells blk (off + k * 3) [.string y1, .string y2, .string y3]).frozen? ⟨blk, off + y * 3 + 2, none⟩ = false := (World.frozen?_setCells _ _ _ _ _).trans fy2
                clear hX hY
                have HY := Lib.hid hy
                have wy := WY.out
                clear S2 hy
                go_upto_region 23 with fail
                go_big_region
                rw [swap_world]
                have S3 : Hid (SWK encA 3 w0 blk off (swp dk k y) ((wr.drew.setCells blk (off + k * 3) [.string y1, .string y2, .string y3]).setCells blk (off + y * 3) [.string x1, .string x2, .string x3])) := SX
                generalize ((wr.drew.setCells blk (off + k * 3) [.string y1, .string y2, .string y3]).setCells blk (off + y * 3) [.string x1, .string x2, .string x3]) = w2 at S3 ⊢
                clear SX cx0 cx1 cx2 fx0 fx1 fx2 cy0 cy1 cy2 fy0 fy1 fy2 gy0 gy1 gy2 hy0 hy1 hy2
                go_wp2_with fail
                clear wy
                have hy2 := HY.out
                exact ⟨⟨y, swp dk k y, rfl, by omega, by omega, by rw [size_swp]; exact kds, S3, Lib.hid (by rw [← HSH.out, show k - i = (y - i) + 1 from by omega, ← hy2]; rfl)⟩, by simp [intOf]; omega⟩
              · obtain rfl : k = i := by omega
                have hfin : SWK encA 3 w0 blk off (symF ltA (f + 1) a m b d) wr := by
                  rw [HF.out, ← HSH.out, Nat.sub_self]
                  exact S2.out
                have HFN := Lib.hid hfin
                clear hfin S2 HSH
                go_wp2_with fail
                (try simp only [Exit.inBlock, Exit.then])
                refine bodyPost_ret (results_none rfl _ _ _) rfl ?_
                exact ⟨rfl, HFN.out⟩
end Go.Proofs.YtojeclfcgnamoaaDoor
