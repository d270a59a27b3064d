/-
  The stable sort of attributes, walked: symMerge (ftt, fft).
-/
import Derived.Test.YtojeclfcgnamoaaDoorSTE
import Derived.Sort.WalkA
namespace Go.Proofs.YtojeclfcgnamoaaDoor
open Go.RowKit Go.Sort Go.Shelf Go.Lib

set_option maxRecDepth 100000 in
set_option maxHeartbeats 16000000 in
theorem symM3f_tt_s (blk off cap : Nat) (d0 : Array Atr) (w0 : World) (N : Nat) (R : RowK encA 3 w0 blk off d0) (hs : d0.size = N) (hsz : N ≤ 1073741824) (f : Nat) (ih : (∀ (a m b : Nat) (d : Array Atr) (w : World), d.size = N → SWK encA 3 w0 blk off d w → b - a ≤ f → a < m → m < b → b ≤ N → Calls Tryd.prog 67 #[.slice (some ⟨blk, off, none⟩) N cap, .int .i64 a, .int .i64 m, .int .i64 b, .func (.func 32) #[] #[]] w fun e w' => e = .returned (.tuple #[]) ∧ SWK encA 3 w0 blk off (symF ltA f a m b d) w')) (a m b : Nat) (d : Array Atr) (w : World) (hds : d.size = N) (S : SWK encA 3 w0 blk off d w) (hf : b - a ≤ f + 1) (h1 : a < m) (h2 : m < b) (h3 : b ≤ N) (c1 : ¬ m - a = 1) (c2 : ¬ b - m = 1) (hg : ¬ (a + b) / 2 < m) (hcase : ∀ s e : Nat, (if (a + b) / 2 < m then bs (fun c : Nat => !ltA d[(a + b) / 2 + m - 1 - c]! d[c]!) ((a + b) / 2 + m - b) ((a + b) / 2) else bs (fun c : Nat => !ltA d[(a + b) / 2 + m - 1 - c]! d[c]!) a m) = s → (a + b) / 2 + m - s = e → s < m ∧ m < e ∧ a < s ∧ s < (a + b) / 2 ∧ (a + b) / 2 < e ∧ e < b) :
    Calls Tryd.prog 67 #[.slice (some ⟨blk, off, none⟩) N cap, .int .i64 a, .int .i64 m, .int .i64 b, .func (.func 32) #[] #[]] w fun e w' => e = .returned (.tuple #[]) ∧ SWK encA 3 w0 blk off (symF ltA (f + 1) a m b d) w' := by
    have S0 := Lib.hid S
    have HDS := Lib.hid hds
    have IH := Lib.hid ih
    have HR := Lib.hid R
    have HS0 := Lib.hid hs
    clear S ih R hs
    · have c1i : ((m : Int) - a == 1) = false := beq_eq_false_iff_ne.2 (by omega)
      have HC1 := Lib.hid c1
      · have c2i : ((b : Int) - m == 1) = false := beq_eq_false_iff_ne.2 (by omega)
        have HC2 := Lib.hid c2
        obtain ⟨mid, hmid⟩ : ∃ x, (a + b) / 2 = x := ⟨_, rfl⟩
        rw [hmid] at hg
        have hmi : ((a : Int) + b) / 2 = (mid : Int) := by omega
        have hm1 : a < mid ∧ mid < b := by omega
        have hm2 : 2 * mid ≤ a + b ∧ a + b ≤ 2 * mid + 1 := by omega
        rw [hmid] at hcase
        obtain ⟨s, hs0⟩ : ∃ s, (if mid < m then bs (fun c : Nat => !ltA d[mid + m - 1 - c]! d[c]!) (mid + m - b) mid else bs (fun c : Nat => !ltA d[mid + m - 1 - c]! d[c]!) a m) = s := ⟨_, rfl⟩
        obtain ⟨e, he0⟩ : ∃ e, mid + m - s = e := ⟨_, rfl⟩
        have HCS := Lib.hid (hcase s e hs0 he0)
        clear hcase
        obtain ⟨P, hP0⟩ : ∃ P : Nat → Bool, (fun c : Nat => !ltA d[mid + m - 1 - c]! d[c]!) = P := ⟨_, rfl⟩
        have HPF : Hid (∀ c, P c = !ltA d[mid + m - 1 - c]! d[c]!) := Lib.hid fun h => by rw [← hP0]
        rw [hP0] at hs0
        obtain ⟨d1, hd1⟩ : ∃ x, (if s < m ∧ m < e then rotF m (e - s) (m - s) (e - m) d else d) = x := ⟨_, rfl⟩
        obtain ⟨d2, hd2⟩ : ∃ x, (if a < s ∧ s < mid then symF ltA f a s mid d1 else d1) = x := ⟨_, rfl⟩
        have HF : Hid (symF ltA (f + 1) a m b d = if mid < e ∧ e < b then symF ltA f mid e b d2 else d2) := Lib.hid (by
          rw [symF, if_neg c1, if_neg c2]
          dsimp only
          rw [hmid, hP0, hs0, he0, hd1, hd2])
        have HD1 := Lib.hid hd1
        have HD2 := Lib.hid hd2
        have hz1 : d1.size = N := by
          rw [← hd1]
          split
          · rw [rotF_size]; exact hds
          · exact hds
        have hz2 : d2.size = N := by
          rw [← hd2]
          split
          · rw [symF_size]; exact hz1
          · exact hz1
        have HZ1 := Lib.hid hz1
        have HZ2 := Lib.hid hz2
        have HSB := Lib.hid hs0
        have HEE := Lib.hid he0
        clear c1 c2 hP0 hds hmid hs0 he0 hd1 hd2 hz1 hz2
        have HS1 : Hid (bs P a m = s) := Lib.hid (by rw [← HSB.out, if_neg hg])
        have hgi : ¬ ((mid : Int) < m) := by omega
        have hbd : a ≤ m ∧ a ≤ a ∧ (∀ c, a ≤ c → c < m → c < N ∧ mid + m - 1 - c < N ∧ c ≤ mid + m - 1) := ⟨by omega, by omega, fun c u1 u2 => ⟨by omega, by omega, by omega⟩⟩
        have hsp := bs_spec P (m - a) a m (Nat.le_refl _) hbd.1
        rw [HS1.out] at hsp
        obtain ⟨hsl, hsh, _, _⟩ := hsp
        have hes := HEE.out
        have hfacts : a ≤ s ∧ s ≤ m ∧ s ≤ mid ∧ m ≤ e ∧ mid ≤ e ∧ e ≤ b ∧ s + e = mid + m := by omega
        obtain ⟨p, hp1⟩ : ∃ p, mid + m - 1 = p := ⟨_, rfl⟩
        have WP : Hid (IntKind.i64.wrap ((mid : Int) + m - 1) = (p : Int)) := Lib.hid (by rw [IntKind.wrap_i64]; omega)
        have HBD := Lib.hid hbd.2.2
        have hbd1 := hbd.1
        have hbd2 := hbd.2.1
        have HP1 := Lib.hid hp1
        have HFA := Lib.hid hfacts
        have HHM := Lib.hid hm2
        have HHG := Lib.hid hg
        clear hbd hes hsl hsh hfacts hp1 hm2 hg
        go_enter Tryd.func67, Tryd.ntmps67
        have wp0 := WP.out
        go_wp2_with fail
        clear wp0
        go_loopw [20, 21] (fun x y wr => ∃ (i j : Nat), x = .int .i64 i ∧ y = .int .i64 j ∧ a ≤ i ∧ i ≤ j ∧ j ≤ m ∧ Hid (SWK encA 3 w0 blk off d wr) ∧ Hid (bs P i j = s)) (fun x y _ => (intOf y).toNat - (intOf x).toNat)
        case atStart => exact ⟨a, m, rfl, rfl, Nat.le_refl _, hbd1, Nat.le_refl _, S0, HS1⟩
        case round =>
          obtain ⟨i, j, rfl, rfl, g1, g2, g3, S1, HB⟩ := hrel
          by_cases hlt : i < j
          · have hlti : (i : Int) < j := by omega
            obtain ⟨c, hh⟩ : ∃ h, (i + j) / 2 = h := ⟨_, rfl⟩
            have hhi : ((i : Int) + j) / 2 = (c : Int) := by omega
            have hb1 : i ≤ c ∧ c < j := by omega
            obtain ⟨u1, u2, u3⟩ := HBD.out c (by omega) (by omega)
            obtain ⟨z, hq⟩ : ∃ z, mid + m - 1 - c = z := ⟨_, rfl⟩
            have hp1 := HP1.out
            have WQ : Hid (IntKind.i64.wrap ((p : Int) - c) = (z : Int)) := Lib.hid (by rw [IntKind.wrap_i64]; omega)
            have HQQ := Lib.hid hq
            have HHH := Lib.hid hh
            have HHI := Lib.hid hhi
            have hiN : i + j ≤ 4294967296 := by omega
            clear hh hhi hp1
            go_upto_region 35 with fail
            rw [HHI.out]
            have hdsz := HDS.out
            have hcN : (c : Int) < N := by omega
            have hqN : (z : Int) < N := by omega
            obtain ⟨cp1, cp2, cp3, _⟩ := swk_cells S1.out HR.out (by have := HS0.out; omega) z (by omega)
            obtain ⟨cq1, cq2, cq3, _⟩ := swk_cells S1.out HR.out (by have := HS0.out; omega) c (by omega)
            obtain ⟨⟨p1, p2, p3⟩, hP⟩ : ∃ q, d[z]! = q := ⟨_, rfl⟩
            obtain ⟨⟨q1, q2, q3⟩, hQ⟩ : ∃ q, d[c]! = q := ⟨_, rfl⟩
            rw [hP] at cp1 cp2 cp3
            rw [hQ] at cq1 cq2 cq3
            dsimp only at cp1 cp2 cp3 cq1 cq2 cq3
            have HP := Lib.hid hP
            have HQ := Lib.hid hQ
            obtain ⟨C, hC⟩ : ∃ C, cmpA (p1, p2, p3) (q1, q2, q3) = C := ⟨_, rfl⟩
            have HLT := Lib.hid (ltA_of hC)
            have HCMP : Hid (∀ W, SWK encA 3 w0 blk off d W → Calls Tryd.prog 32 #[.agg #[.string p1, .string p2, .string p3], .agg #[.string q1, .string q2, .string q3]] W fun e w' => e = .returned (.int .i64 C) ∧ SWK encA 3 w0 blk off d w') := Lib.hid fun W hW => by rw [← hC]; exact swk_cmp hW (p1, p2, p3) (q1, q2, q3)
            clear hP hQ hC
            obtain ⟨BB, hBB⟩ : ∃ B, decide (C < 0) = B := ⟨_, rfl⟩
            have hp : Hid (P c = !BB) := Lib.hid (by rw [HPF.out c, HQQ.out, HP.out, HQ.out, HLT.out, hBB])
            have wq := WQ.out
            refine wp_region_held_drew (S := fun w' => w'.cell? ⟨blk, off + z * 3, none⟩ = some (.string p1) ∧ w'.cell? ⟨blk, off + z * 3 + 1, none⟩ = some (.string p2) ∧ w'.cell? ⟨blk, off + z * 3 + 2, none⟩ = some (.string p3) ∧ w'.cell? ⟨blk, off + c * 3, none⟩ = some (.string q1) ∧ w'.cell? ⟨blk, off + c * 3 + 1, none⟩ = some (.string q2) ∧ w'.cell? ⟨blk, off + c * 3 + 2, none⟩ = some (.string q3) ∧ SWK encA 3 w0 blk off d w') (by kernel_rfl) ⟨cp1, cp2, cp3, cq1, cq2, cq3, S1.out.drew⟩ (fun hHeld => ?_)
            refine wpAnyH_take (i := 0) (oi := _) (v := ?_) rfl (by kernel_rfl) (by kernel_rfl) (by kernel_rfl) (fun _ _ _ h => h) ?_ (by assumption) ?_
            rotate_left 1
            · first
                | (refine Or.inl ⟨by rfl, ?_⟩; intro w9 hSw; (try dsimp only at hSw); go_simp; (try with_reducible rfl); done)
                | (refine Or.inr ⟨by rfl, ?_⟩; rfl)
            simp only [List.getElem_toArray, List.getElem_cons_zero, Act.put, List.setIfInBounds_toArray, List.set_cons_zero, List.set_cons_succ]
            refine wpAnyH_take (i := 1) (oi := _) (v := ?_) rfl (by kernel_rfl) (by kernel_rfl) (by kernel_rfl) (fun _ _ _ h => h) ?_ (by assumption) ?_
            rotate_left 1
            · first
                | (refine Or.inl ⟨by rfl, ?_⟩; intro w9 hSw; (try dsimp only at hSw); go_simp; (try with_reducible rfl); done)
                | (refine Or.inr ⟨by rfl, ?_⟩; rfl)
            simp only [List.getElem_toArray, List.getElem_cons_succ, List.getElem_cons_zero, Act.put, List.setIfInBounds_toArray, List.set_cons_zero, List.set_cons_succ]
            refine wpAnyH_take (i := 2) (oi := _) (v := ?_) rfl (by kernel_rfl) (by kernel_rfl) (by kernel_rfl) (fun _ _ _ h => h) ?_ (by assumption) ?_
            rotate_left 1
            · first
                | (refine Or.inl ⟨by rfl, ?_⟩; intro w9 hSw; (try dsimp only at hSw); go_simp; (try with_reducible rfl); done)
                | (refine Or.inr ⟨by rfl, ?_⟩; rfl)
            simp only [List.getElem_toArray, List.getElem_cons_succ, List.getElem_cons_zero, Act.put, List.setIfInBounds_toArray, List.set_cons_zero, List.set_cons_succ]
            refine wpAnyH_take (i := 3) (oi := _) (v := ?_) rfl (by kernel_rfl) (by kernel_rfl) (by kernel_rfl) (fun _ _ _ h => h) ?_ (by assumption) ?_
            rotate_left 1
            · first
                | (refine Or.inl ⟨by rfl, ?_⟩; intro w9 hSw; (try dsimp only at hSw); go_simp; (try with_reducible rfl); done)
                | (refine Or.inr ⟨by rfl, ?_⟩; rfl)
            simp only [List.getElem_toArray, List.getElem_cons_succ, List.getElem_cons_zero, Act.put, List.setIfInBounds_toArray, List.set_cons_zero, List.set_cons_succ]
            refine wpAnyH_take (i := 4) (oi := _) (v := ?_) rfl (by kernel_rfl) (by kernel_rfl) (by kernel_rfl) (fun _ _ _ h => h) ?_ (by assumption) ?_
            rotate_left 1
            · first
                | (refine Or.inl ⟨by rfl, ?_⟩; intro w9 hSw; (try dsimp only at hSw); go_simp; (try with_reducible rfl); done)
                | (refine Or.inr ⟨by rfl, ?_⟩; rfl)
            simp only [List.getElem_toArray, List.getElem_cons_succ, List.getElem_cons_zero, Act.put, List.setIfInBounds_toArray, List.set_cons_zero, List.set_cons_succ]
            refine wpAnyH_take (i := 5) (oi := _) (v := ?_) rfl (by kernel_rfl) (by kernel_rfl) (by kernel_rfl) (fun _ _ _ h => h) ?_ (by assumption) ?_
            rotate_left 1
            · first
                | (refine Or.inl ⟨by rfl, ?_⟩; intro w9 hSw; (try dsimp only at hSw); go_simp; (try with_reducible rfl); done)
                | (refine Or.inr ⟨by rfl, ?_⟩; rfl)
            simp only [List.getElem_toArray, List.getElem_cons_succ, List.getElem_cons_zero, Act.put, List.setIfInBounds_toArray, List.set_cons_zero, List.set_cons_succ]
            refine wpAnyH_take (i := 6) (oi := _) (v := ?_) rfl (by kernel_rfl) (by kernel_rfl) (by kernel_rfl) (fun _ _ _ h => h) ?_ (by assumption) ?_
            rotate_left 1
            · first
                | (refine Or.inl ⟨by rfl, ?_⟩; intro w9 hSw; (try dsimp only at hSw); go_simp; (try with_reducible rfl); done)
                | (refine Or.inr ⟨by rfl, ?_⟩; rfl)
            simp only [List.getElem_toArray, List.getElem_cons_succ, List.getElem_cons_zero, Act.put, List.setIfInBounds_toArray, List.set_cons_zero, List.set_cons_succ]
            refine wpAnyH_take (i := 7) (oi := _) (v := ?_) rfl (by kernel_rfl) (by kernel_rfl) (by kernel_rfl) (fun _ _ _ h => h) ?_ (by assumption) ?_
            rotate_left 1
            · first
                | (refine Or.inl ⟨by rfl, ?_⟩; intro w9 hSw; (try dsimp only at hSw); go_simp; (try with_reducible rfl); done)
                | (refine Or.inr ⟨by rfl, ?_⟩; rfl)
            simp only [List.getElem_toArray, List.getElem_cons_succ, List.getElem_cons_zero, Act.put, List.setIfInBounds_toArray, List.set_cons_zero, List.set_cons_succ]
            refine wpAnyH_take (i := 8) (oi := _) (v := ?_) rfl (by kernel_rfl) (by kernel_rfl) (by kernel_rfl) (fun _ _ _ h => h) ?_ (by assumption) ?_
            rotate_left 1
            · first
                | (refine Or.inl ⟨by rfl, ?_⟩; intro w9 hSw; (try dsimp only at hSw); go_simp; (try with_reducible rfl); done)
                | (refine Or.inr ⟨by rfl, ?_⟩; rfl)
            simp only [List.getElem_toArray, List.getElem_cons_succ, List.getElem_cons_zero, Act.put, List.setIfInBounds_toArray, List.set_cons_zero, List.set_cons_succ]
            refine wpAnyH_take (i := 9) (oi := _) (v := ?_) rfl (by kernel_rfl) (by kernel_rfl) (by kernel_rfl) (fun _ _ _ h => h) ?_ (by assumption) ?_
            rotate_left 1
            · first
                | (refine Or.inl ⟨by rfl, ?_⟩; intro w9 hSw; (try dsimp only at hSw); go_simp; (try with_reducible rfl); done)
                | (refine Or.inr ⟨by rfl, ?_⟩; rfl)
            simp only [List.getElem_toArray, List.getElem_cons_succ, List.getElem_cons_zero, Act.put, List.setIfInBounds_toArray, List.set_cons_zero, List.set_cons_succ]
            refine wpAnyH_take (i := 10) (oi := _) (v := ?_) rfl (by kernel_rfl) (by kernel_rfl) (by kernel_rfl) (fun _ _ _ h => h) ?_ (by assumption) ?_
            rotate_left 1
            · first
                | (refine Or.inl ⟨by rfl, ?_⟩; intro w9 hSw; (try dsimp only at hSw); go_simp; (try with_reducible rfl); done)
                | (refine Or.inr ⟨by rfl, ?_⟩; rfl)
            simp only [List.getElem_toArray, List.getElem_cons_succ, List.getElem_cons_zero, Act.put, List.setIfInBounds_toArray, List.set_cons_zero, List.set_cons_succ]
            refine wpAnyH_ready (rs := [11]) (by kernel_rfl) (by simp) ?_
            refine AllReadyH.cons (o := _) rfl (fun K hK => ?_) AllReadyH.nil
            go_simp
            refine (HCMP.out _ hHeld.2.2.2.2.2.2).mono ?_
            rintro e8 w8 ⟨rfl, hS8⟩
            dsimp only
            obtain ⟨kp1, kp2, kp3, _⟩ := swk_cells hS8 HR.out (by have := HS0.out; omega) z (by omega)
            obtain ⟨kq1, kq2, kq3, _⟩ := swk_cells hS8 HR.out (by have := HS0.out; omega) c (by omega)
            rw [HP.out] at kp1 kp2 kp3
            rw [HQ.out] at kq1 kq2 kq3
            refine hK.out _ _ ⟨kp1, kp2, kp3, kq1, kq2, kq3, hS8⟩ (fun hHeld => ?_)
            clear hK K
            refine wpAnyH_take (i := 12) (oi := _) (v := ?_) rfl (by kernel_rfl) (by kernel_rfl) (by kernel_rfl) (fun _ _ _ h => h) ?_ (by assumption) ?_
            rotate_left 1
            · first
                | (refine Or.inl ⟨by rfl, ?_⟩; intro w9 hSw; (try dsimp only at hSw); go_simp; (try with_reducible rfl); done)
                | (refine Or.inr ⟨by rfl, ?_⟩; rfl)
            simp only [List.getElem_toArray, List.getElem_cons_succ, List.getElem_cons_zero, Act.put, List.setIfInBounds_toArray, List.set_cons_zero, List.set_cons_succ]
            refine wpAnyH_take (i := 13) (oi := _) (v := ?_) rfl (by kernel_rfl) (by kernel_rfl) (by kernel_rfl) (fun _ _ _ h => h) ?_ (by assumption) ?_
            rotate_left 1
            · first
                | (refine Or.inl ⟨by rfl, ?_⟩; intro w9 hSw; (try dsimp only at hSw); go_simp; (try with_reducible rfl); done)
                | (refine Or.inr ⟨by rfl, ?_⟩; rfl)
            simp only [List.getElem_toArray, List.getElem_cons_succ, List.getElem_cons_zero, Act.put, List.setIfInBounds_toArray, List.set_cons_zero, List.set_cons_succ]
            refine wpAnyH_done (by kernel_rfl) ?_ _
            have ST := Lib.hid hHeld.2.2.2.2.2.2
            clear hHeld
            clear wq hBB
            cases BB with
            | true =>
              go_wp2_with fail
              exact ⟨⟨i, c, rfl, rfl, g1, by omega, by omega, ST, Lib.hid (by rw [← HB.out, bs_go _ i j hlt, HHH.out, if_neg (by rw [hp.out]; decide)])⟩, by simp [intOf]; omega⟩
            | false =>
              go_wp2_with fail
              exact ⟨⟨c + 1, j, by go_num, rfl, by omega, by omega, g3, ST, Lib.hid (by rw [← HB.out, bs_go _ i j hlt, HHH.out, if_pos (by rw [hp.out]; rfl)])⟩, by simp [intOf]; omega⟩
          · obtain rfl : i = j := by omega
            have hbs : i = s := by rw [← HB.out, bs_stop _ _ _ (by omega)]
            subst hbs
            obtain ⟨v1, v2, v3, v4, v5, v6, v7⟩ := HFA.out
            have WE : Hid (IntKind.i64.wrap ((mid : Int) + m - i) = (e : Int)) := Lib.hid (by rw [IntKind.wrap_i64]; omega)
            have we := WE.out
            clear hlt HB
            have hcs := HCS.out
            have y1 : (i : Int) < m := by omega
            have y2 : (m : Int) < e := by omega
            have y3 : (a : Int) < i := by omega
            have y4 : (i : Int) < mid := by omega
            have y5 : (mid : Int) < e := by omega
            have y6 : (e : Int) < b := by omega
            clear hcs
            have x1 : i < m ∧ m < e := by have := HCS.out; omega
            have HCL : Hid (Calls Tryd.prog 77 #[.slice (some ⟨blk, off, none⟩) N cap, .int .i64 i, .int .i64 m, .int .i64 e, .func (.func 32) #[] #[]] wr fun e9 w9 => e9 = .returned (.tuple #[]) ∧ SWK encA 3 w0 blk off d1 w9) := Lib.hid (by have h9 := rotate_s 32 #[] blk off cap i m e d0 d w0 wr HR.out (by have := HDS.out; have := HS0.out; omega) S1.out x1.1 x1.2 (by have := HDS.out; omega) (by have := HDS.out; omega); rw [HDS.out] at h9; rw [← HD1.out, if_pos x1]; exact h9)
            clear x1 S1
            go_wp2_with fail
            clear we
            refine HCL.out.mono ?_
            rintro e9 w9 ⟨rfl, hS9⟩
            have S1 := Lib.hid hS9
            clear hS9 HCL
            generalize w9 = wr at S1 ⊢
            have x1 : a < i ∧ i < mid := by have := HCS.out; omega
            have HCL : Hid (Calls Tryd.prog 67 #[.slice (some ⟨blk, off, none⟩) N cap, .int .i64 a, .int .i64 i, .int .i64 mid, .func (.func 32) #[] #[]] wr fun e9 w9 => e9 = .returned (.tuple #[]) ∧ SWK encA 3 w0 blk off d2 w9) := Lib.hid (by rw [← HD2.out, if_pos x1]; exact IH.out a i mid d1 wr HZ1.out S1.out (by omega) x1.1 x1.2 (by omega))
            clear x1 S1
            go_wp2_with fail
            refine HCL.out.mono ?_
            rintro e9 w9 ⟨rfl, hS9⟩
            have S1 := Lib.hid hS9
            clear hS9 HCL
            generalize w9 = wr at S1 ⊢
            have x1 : mid < e ∧ e < b := by have := HCS.out; omega
            have HCL : Hid (Calls Tryd.prog 67 #[.slice (some ⟨blk, off, none⟩) N cap, .int .i64 mid, .int .i64 e, .int .i64 b, .func (.func 32) #[] #[]] wr fun e9 w9 => e9 = .returned (.tuple #[]) ∧ SWK encA 3 w0 blk off (symF ltA (f + 1) a m b d) w9) := Lib.hid (by rw [HF.out, if_pos x1]; exact IH.out mid e b d2 wr HZ2.out S1.out (by omega) x1.1 x1.2 (by omega))
            clear x1 S1
            go_wp2_with fail
            refine HCL.out.mono ?_
            rintro e9 w9 ⟨rfl, hS9⟩
            have S1 := Lib.hid hS9
            clear hS9 HCL
            generalize w9 = wr at S1 ⊢
            go_wp2_with fail
            go_end0
            exact ⟨rfl, S1.out⟩
set_option maxRecDepth 100000 in
set_option maxHeartbeats 16000000 in
theorem symM3f_ft_s (blk off cap : Nat) (d0 : Array Atr) (w0 : World) (N : Nat) (R : RowK encA 3 w0 blk off d0) (hs : d0.size = N) (hsz : N ≤ 1073741824) (f : Nat) (ih : (∀ (a m b : Nat) (d : Array Atr) (w : World), d.size = N → SWK encA 3 w0 blk off d w → b - a ≤ f → a < m → m < b → b ≤ N → Calls Tryd.prog 67 #[.slice (some ⟨blk, off, none⟩) N cap, .int .i64 a, .int .i64 m, .int .i64 b, .func (.func 32) #[] #[]] w fun e w' => e = .returned (.tuple #[]) ∧ SWK encA 3 w0 blk off (symF ltA f a m b d) w')) (a m b : Nat) (d : Array Atr) (w : World) (hds : d.size = N) (S : SWK encA 3 w0 blk off d w) (hf : b - a ≤ f + 1) (h1 : a < m) (h2 : m < b) (h3 : b ≤ N) (c1 : ¬ m - a = 1) (c2 : ¬ b - m = 1) (hg : ¬ (a + b) / 2 < m) (hcase : ∀ s e : Nat, (if (a + b) / 2 < m then bs (fun c : Nat => !ltA d[(a + b) / 2 + m - 1 - c]! d[c]!) ((a + b) / 2 + m - b) ((a + b) / 2) else bs (fun c : Nat => !ltA d[(a + b) / 2 + m - 1 - c]! d[c]!) a m) = s → (a + b) / 2 + m - s = e → s < m ∧ m < e ∧ ¬ a < s ∧ (a + b) / 2 < e ∧ e < b) :
    Calls Tryd.prog 67 #[.slice (some ⟨blk, off, none⟩) N cap, .int .i64 a, .int .i64 m, .int .i64 b, .func (.func 32) #[] #[]] w fun e w' => e = .returned (.tuple #[]) ∧ SWK encA 3 w0 blk off (symF ltA (f + 1) a m b d) w' := by
    have S0 := Lib.hid S
    have HDS := Lib.hid hds
    have IH := Lib.hid ih
    have HR := Lib.hid R
    have HS0 := Lib.hid hs
    clear S ih R hs
    · have c1i : ((m : Int) - a == 1) = false := beq_eq_false_iff_ne.2 (by omega)
      have HC1 := Lib.hid c1
      · have c2i : ((b : Int) - m == 1) = false := beq_eq_false_iff_ne.2 (by omega)
        have HC2 := Lib.hid c2
        obtain ⟨mid, hmid⟩ : ∃ x, (a + b) / 2 = x := ⟨_, rfl⟩
        rw [hmid] at hg
        have hmi : ((a : Int) + b) / 2 = (mid : Int) := by omega
        have hm1 : a < mid ∧ mid < b := by omega
        have hm2 : 2 * mid ≤ a + b ∧ a + b ≤ 2 * mid + 1 := by omega
        rw [hmid] at hcase
        obtain ⟨s, hs0⟩ : ∃ s, (if mid < m then bs (fun c : Nat => !ltA d[mid + m - 1 - c]! d[c]!) (mid + m - b) mid else bs (fun c : Nat => !ltA d[mid + m - 1 - c]! d[c]!) a m) = s := ⟨_, rfl⟩
        obtain ⟨e, he0⟩ : ∃ e, mid + m - s = e := ⟨_, rfl⟩
        have HCS := Lib.hid (hcase s e hs0 he0)
        clear hcase
        obtain ⟨P, hP0⟩ : ∃ P : Nat → Bool, (fun c : Nat => !ltA d[mid + m - 1 - c]! d[c]!) = P := ⟨_, rfl⟩
        have HPF : Hid (∀ c, P c = !ltA d[mid + m - 1 - c]! d[c]!) := Lib.hid fun h => by rw [← hP0]
        rw [hP0] at hs0
        obtain ⟨d1, hd1⟩ : ∃ x, (if s < m ∧ m < e then rotF m (e - s) (m - s) (e - m) d else d) = x := ⟨_, rfl⟩
        obtain ⟨d2, hd2⟩ : ∃ x, (if a < s ∧ s < mid then symF ltA f a s mid d1 else d1) = x := ⟨_, rfl⟩
        have HF : Hid (symF ltA (f + 1) a m b d = if mid < e ∧ e < b then symF ltA f mid e b d2 else d2) := Lib.hid (by
          rw [symF, if_neg c1, if_neg c2]
          dsimp only
          rw [hmid, hP0, hs0, he0, hd1, hd2])
        have HD1 := Lib.hid hd1
        have HD2 := Lib.hid hd2
        have hz1 : d1.size = N := by
          rw [← hd1]
          split
          · rw [rotF_size]; exact hds
          · exact hds
        have hz2 : d2.size = N := by
          rw [← hd2]
          split
          · rw [symF_size]; exact hz1
          · exact hz1
        have HZ1 := Lib.hid hz1
        have HZ2 := Lib.hid hz2
        have HSB := Lib.hid hs0
        have HEE := Lib.hid he0
        clear c1 c2 hP0 hds hmid hs0 he0 hd1 hd2 hz1 hz2
        have HS1 : Hid (bs P a m = s) := Lib.hid (by rw [← HSB.out, if_neg hg])
        have hgi : ¬ ((mid : Int) < m) := by omega
        have hbd : a ≤ m ∧ a ≤ a ∧ (∀ c, a ≤ c → c < m → c < N ∧ mid + m - 1 - c < N ∧ c ≤ mid + m - 1) := ⟨by omega, by omega, fun c u1 u2 => ⟨by omega, by omega, by omega⟩⟩
        have hsp := bs_spec P (m - a) a m (Nat.le_refl _) hbd.1
        rw [HS1.out] at hsp
        obtain ⟨hsl, hsh, _, _⟩ := hsp
        have hes := HEE.out
        have hfacts : a ≤ s ∧ s ≤ m ∧ s ≤ mid ∧ m ≤ e ∧ mid ≤ e ∧ e ≤ b ∧ s + e = mid + m := by omega
        obtain ⟨p, hp1⟩ : ∃ p, mid + m - 1 = p := ⟨_, rfl⟩
        have WP : Hid (IntKind.i64.wrap ((mid : Int) + m - 1) = (p : Int)) := Lib.hid (by rw [IntKind.wrap_i64]; omega)
        have HBD := Lib.hid hbd.2.2
        have hbd1 := hbd.1
        have hbd2 := hbd.2.1
        have HP1 := Lib.hid hp1
        have HFA := Lib.hid hfacts
        have HHM := Lib.hid hm2
        have HHG := Lib.hid hg
        clear hbd hes hsl hsh hfacts hp1 hm2 hg
        go_enter Tryd.func67, Tryd.ntmps67
        have wp0 := WP.out
        go_wp2_with fail
        clear wp0
        go_loopw [20, 21] (fun x y wr => ∃ (i j : Nat), x = .int .i64 i ∧ y = .int .i64 j ∧ a ≤ i ∧ i ≤ j ∧ j ≤ m ∧ Hid (SWK encA 3 w0 blk off d wr) ∧ Hid (bs P i j = s)) (fun x y _ => (intOf y).toNat - (intOf x).toNat)
        case atStart => exact ⟨a, m, rfl, rfl, Nat.le_refl _, hbd1, Nat.le_refl _, S0, HS1⟩
        case round =>
          obtain ⟨i, j, rfl, rfl, g1, g2, g3, S1, HB⟩ := hrel
          by_cases hlt : i < j
          · have hlti : (i : Int) < j := by omega
            obtain ⟨c, hh⟩ : ∃ h, (i + j) / 2 = h := ⟨_, rfl⟩
            have hhi : ((i : Int) + j) / 2 = (c : Int) := by omega
            have hb1 : i ≤ c ∧ c < j := by omega
            obtain ⟨u1, u2, u3⟩ := HBD.out c (by omega) (by omega)
            obtain ⟨z, hq⟩ : ∃ z, mid + m - 1 - c = z := ⟨_, rfl⟩
            have hp1 := HP1.out
            have WQ : Hid (IntKind.i64.wrap ((p : Int) - c) = (z : Int)) := Lib.hid (by rw [IntKind.wrap_i64]; omega)
            have HQQ := Lib.hid hq
            have HHH := Lib.hid hh
            have HHI := Lib.hid hhi
            have hiN : i + j ≤ 4294967296 := by omega
            clear hh hhi hp1
            go_upto_region 35 with fail
            rw [HHI.out]
            have hdsz := HDS.out
            have hcN : (c : Int) < N := by omega
            have hqN : (z : Int) < N := by omega
            obtain ⟨cp1, cp2, cp3, _⟩ := swk_cells S1.out HR.out (by have := HS0.out; omega) z (by omega)
            obtain ⟨cq1, cq2, cq3, _⟩ := swk_cells S1.out HR.out (by have := HS0.out; omega) c (by omega)
            obtain ⟨⟨p1, p2, p3⟩, hP⟩ : ∃ q, d[z]! = q := ⟨_, rfl⟩
            obtain ⟨⟨q1, q2, q3⟩, hQ⟩ : ∃ q, d[c]! = q := ⟨_, rfl⟩
            rw [hP] at cp1 cp2 cp3
            rw [hQ] at cq1 cq2 cq3
            dsimp only at cp1 cp2 cp3 cq1 cq2 cq3
            have HP := Lib.hid hP
            have HQ := Lib.hid hQ
            obtain ⟨C, hC⟩ : ∃ C, cmpA (p1, p2, p3) (q1, q2, q3) = C := ⟨_, rfl⟩
            have HLT := Lib.hid (ltA_of hC)
            have HCMP : Hid (∀ W, SWK encA 3 w0 blk off d W → Calls Tryd.prog 32 #[.agg #[.string p1, .string p2, .string p3], .agg #[.string q1, .string q2, .string q3]] W fun e w' => e = .returned (.int .i64 C) ∧ SWK encA 3 w0 blk off d w') := Lib.hid fun W hW => by rw [← hC]; exact swk_cmp hW (p1, p2, p3) (q1, q2, q3)
            clear hP hQ hC
            obtain ⟨BB, hBB⟩ : ∃ B, decide (C < 0) = B := ⟨_, rfl⟩
            have hp : Hid (P c = !BB) := Lib.hid (by rw [HPF.out c, HQQ.out, HP.out, HQ.out, HLT.out, hBB])
            have wq := WQ.out
            refine wp_region_held_drew (S := fun w' => w'.cell? ⟨blk, off + z * 3, none⟩ = some (.string p1) ∧ w'.cell? ⟨blk, off + z * 3 + 1, none⟩ = some (.string p2) ∧ w'.cell? ⟨blk, off + z * 3 + 2, none⟩ = some (.string p3) ∧ w'.cell? ⟨blk, off + c * 3, none⟩ = some (.string q1) ∧ w'.cell? ⟨blk, off + c * 3 + 1, none⟩ = some (.string q2) ∧ w'.cell? ⟨blk, off + c * 3 + 2, none⟩ = some (.string q3) ∧ SWK encA 3 w0 blk off d w') (by kernel_rfl) ⟨cp1, cp2, cp3, cq1, cq2, cq3, S1.out.drew⟩ (fun hHeld => ?_)
            refine wpAnyH_take (i := 0) (oi := _) (v := ?_) rfl (by kernel_rfl) (by kernel_rfl) (by kernel_rfl) (fun _ _ _ h => h) ?_ (by assumption) ?_
            rotate_left 1
            · first
                | (refine Or.inl ⟨by rfl, ?_⟩; intro w9 hSw; (try dsimp only at hSw); go_simp; (try with_reducible rfl); done)
                | (refine Or.inr ⟨by rfl, ?_⟩; rfl)
            simp only [List.getElem_toArray, List.getElem_cons_zero, Act.put, List.setIfInBounds_toArray, List.set_cons_zero, List.set_cons_succ]
            refine wpAnyH_take (i := 1) (oi := _) (v := ?_) rfl (by kernel_rfl) (by kernel_rfl) (by kernel_rfl) (fun _ _ _ h => h) ?_ (by assumption) ?_
            rotate_left 1
            · first
                | (refine Or.inl ⟨by rfl, ?_⟩; intro w9 hSw; (try dsimp only at hSw); go_simp; (try with_reducible rfl); done)
                | (refine Or.inr ⟨by rfl, ?_⟩; rfl)
            simp only [List.getElem_toArray, List.getElem_cons_succ, List.getElem_cons_zero, Act.put, List.setIfInBounds_toArray, List.set_cons_zero, List.set_cons_succ]
            refine wpAnyH_take (i := 2) (oi := _) (v := ?_) rfl (by kernel_rfl) (by kernel_rfl) (by kernel_rfl) (fun _ _ _ h => h) ?_ (by assumption) ?_
            rotate_left 1
            · first
                | (refine Or.inl ⟨by rfl, ?_⟩; intro w9 hSw; (try dsimp only at hSw); go_simp; (try with_reducible rfl); done)
                | (refine Or.inr ⟨by rfl, ?_⟩; rfl)
            simp only [List.getElem_toArray, List.getElem_cons_succ, List.getElem_cons_zero, Act.put, List.setIfInBounds_toArray, List.set_cons_zero, List.set_cons_succ]
            refine wpAnyH_take (i := 3) (oi := _) (v := ?_) rfl (by kernel_rfl) (by kernel_rfl) (by kernel_rfl) (fun _ _ _ h => h) ?_ (by assumption) ?_
            rotate_left 1
            · first
                | (refine Or.inl ⟨by rfl, ?_⟩; intro w9 hSw; (try dsimp only at hSw); go_simp; (try with_reducible rfl); done)
                | (refine Or.inr ⟨by rfl, ?_⟩; rfl)
            simp only [List.getElem_toArray, List.getElem_cons_succ, List.getElem_cons_zero, Act.put, List.setIfInBounds_toArray, List.set_cons_zero, List.set_cons_succ]
            refine wpAnyH_take (i := 4) (oi := _) (v := ?_) rfl (by kernel_rfl) (by kernel_rfl) (by kernel_rfl) (fun _ _ _ h => h) ?_ (by assumption) ?_
            rotate_left 1
            · first
                | (refine Or.inl ⟨by rfl, ?_⟩; intro w9 hSw; (try dsimp only at hSw); go_simp; (try with_reducible rfl); done)
                | (refine Or.inr ⟨by rfl, ?_⟩; rfl)
            simp only [List.getElem_toArray, List.getElem_cons_succ, List.getElem_cons_zero, Act.put, List.setIfInBounds_toArray, List.set_cons_zero, List.set_cons_succ]
            refine wpAnyH_take (i := 5) (oi := _) (v := ?_) rfl (by kernel_rfl) (by kernel_rfl) (by kernel_rfl) (fun _ _ _ h => h) ?_ (by assumption) ?_
            rotate_left 1
            · first
                | (refine Or.inl ⟨by rfl, ?_⟩; intro w9 hSw; (try dsimp only at hSw); go_simp; (try with_reducible rfl); done)
                | (refine Or.inr ⟨by rfl, ?_⟩; rfl)
            simp only [List.getElem_toArray, List.getElem_cons_succ, List.getElem_cons_zero, Act.put, List.setIfInBounds_toArray, List.set_cons_zero, List.set_cons_succ]
            refine wpAnyH_take (i := 6) (oi := _) (v := ?_) rfl (by kernel_rfl) (by kernel_rfl) (by kernel_rfl) (fun _ _ _ h => h) ?_ (by assumption) ?_
            rotate_left 1
            · first
                | (refine Or.inl ⟨by rfl, ?_⟩; intro w9 hSw; (try dsimp only at hSw); go_simp; (try with_reducible rfl); done)
                | (refine Or.inr ⟨by rfl, ?_⟩; rfl)
            simp only [List.getElem_toArray, List.getElem_cons_succ, List.getElem_cons_zero, Act.put, List.setIfInBounds_toArray, List.set_cons_zero, List.set_cons_succ]
            refine wpAnyH_take (i := 7) (oi := _) (v := ?_) rfl (by kernel_rfl) (by kernel_rfl) (by kernel_rfl) (fun _ _ _ h => h) ?_ (by assumption) ?_
            rotate_left 1
            · first
                | (refine Or.inl ⟨by rfl, ?_⟩; intro w9 hSw; (try dsimp only at hSw); go_simp; (try with_reducible rfl); done)
                | (refine Or.inr ⟨by rfl, ?_⟩; rfl)
            simp only [List.getElem_toArray, List.getElem_cons_succ, List.getElem_cons_zero, Act.put, List.setIfInBounds_toArray, List.set_cons_zero, List.set_cons_succ]
            refine wpAnyH_take (i := 8) (oi := _) (v := ?_) rfl (by kernel_rfl) (by kernel_rfl) (by kernel_rfl) (fun _ _ _ h => h) ?_ (by assumption) ?_
            rotate_left 1
            · first
                | (refine Or.inl ⟨by rfl, ?_⟩; intro w9 hSw; (try dsimp only at hSw); go_simp; (try with_reducible rfl); done)
                | (refine Or.inr ⟨by rfl, ?_⟩; rfl)
            simp only [List.getElem_toArray, List.getElem_cons_succ, List.getElem_cons_zero, Act.put, List.setIfInBounds_toArray, List.set_cons_zero, List.set_cons_succ]
            refine wpAnyH_take (i := 9) (oi := _) (v := ?_) rfl (by kernel_rfl) (by kernel_rfl) (by kernel_rfl) (fun _ _ _ h => h) ?_ (by assumption) ?_
            rotate_left 1
            · first
                | (refine Or.inl ⟨by rfl, ?_⟩; intro w9 hSw; (try dsimp only at hSw); go_simp; (try with_reducible rfl); done)
                | (refine Or.inr ⟨by rfl, ?_⟩; rfl)
            simp only [List.getElem_toArray, List.getElem_cons_succ, List.getElem_cons_zero, Act.put, List.setIfInBounds_toArray, List.set_cons_zero, List.set_cons_succ]
            refine wpAnyH_take (i := 10) (oi := _) (v := ?_) rfl (by kernel_rfl) (by kernel_rfl) (by kernel_rfl) (fun _ _ _ h => h) ?_ (by assumption) ?_
            rotate_left 1
            · first
                | (refine Or.inl ⟨by rfl, ?_⟩; intro w9 hSw; (try dsimp only at hSw); go_simp; (try with_reducible rfl); done)
                | (refine Or.inr ⟨by rfl, ?_⟩; rfl)
            simp only [List.getElem_toArray, List.getElem_cons_succ, List.getElem_cons_zero, Act.put, List.setIfInBounds_toArray, List.set_cons_zero, List.set_cons_succ]
            refine wpAnyH_ready (rs := [11]) (by kernel_rfl) (by simp) ?_
            refine AllReadyH.cons (o := _) rfl (fun K hK => ?_) AllReadyH.nil
            go_simp
            refine (HCMP.out _ hHeld.2.2.2.2.2.2).mono ?_
            rintro e8 w8 ⟨rfl, hS8⟩
            dsimp only
            obtain ⟨kp1, kp2, kp3, _⟩ := swk_cells hS8 HR.out (by have := HS0.out; omega) z (by omega)
            obtain ⟨kq1, kq2, kq3, _⟩ := swk_cells hS8 HR.out (by have := HS0.out; omega) c (by omega)
            rw [HP.out] at kp1 kp2 kp3
            rw [HQ.out] at kq1 kq2 kq3
            refine hK.out _ _ ⟨kp1, kp2, kp3, kq1, kq2, kq3, hS8⟩ (fun hHeld => ?_)
            clear hK K
            refine wpAnyH_take (i := 12) (oi := _) (v := ?_) rfl (by kernel_rfl) (by kernel_rfl) (by kernel_rfl) (fun _ _ _ h => h) ?_ (by assumption) ?_
            rotate_left 1
            · first
                | (refine Or.inl ⟨by rfl, ?_⟩; intro w9 hSw; (try dsimp only at hSw); go_simp; (try with_reducible rfl); done)
                | (refine Or.inr ⟨by rfl, ?_⟩; rfl)
            simp only [List.getElem_toArray, List.getElem_cons_succ, List.getElem_cons_zero, Act.put, List.setIfInBounds_toArray, List.set_cons_zero, List.set_cons_succ]
            refine wpAnyH_take (i := 13) (oi := _) (v := ?_) rfl (by kernel_rfl) (by kernel_rfl) (by kernel_rfl) (fun _ _ _ h => h) ?_ (by assumption) ?_
            rotate_left 1
            · first
                | (refine Or.inl ⟨by rfl, ?_⟩; intro w9 hSw; (try dsimp only at hSw); go_simp; (try with_reducible rfl); done)
                | (refine Or.inr ⟨by rfl, ?_⟩; rfl)
            simp only [List.getElem_toArray, List.getElem_cons_succ, List.getElem_cons_zero, Act.put, List.setIfInBounds_toArray, List.set_cons_zero, List.set_cons_succ]
            refine wpAnyH_done (by kernel_rfl) ?_ _
            have ST := Lib.hid hHeld.2.2.2.2.2.2
            clear hHeld
            clear wq hBB
            cases BB with
            | true =>
              go_wp2_with fail
              exact ⟨⟨i, c, rfl, rfl, g1, by omega, by omega, ST, Lib.hid (by rw [← HB.out, bs_go _ i j hlt, HHH.out, if_neg (by rw [hp.out]; decide)])⟩, by simp [intOf]; omega⟩
            | false =>
              go_wp2_with fail
              exact ⟨⟨c + 1, j, by go_num, rfl, by omega, by omega, g3, ST, Lib.hid (by rw [← HB.out, bs_go _ i j hlt, HHH.out, if_pos (by rw [hp.out]; rfl)])⟩, by simp [intOf]; omega⟩
          · obtain rfl : i = j := by omega
            have hbs : i = s := by rw [← HB.out, bs_stop _ _ _ (by omega)]
            subst hbs
            obtain ⟨v1, v2, v3, v4, v5, v6, v7⟩ := HFA.out
            have WE : Hid (IntKind.i64.wrap ((mid : Int) + m - i) = (e : Int)) := Lib.hid (by rw [IntKind.wrap_i64]; omega)
            have we := WE.out
            clear hlt HB
            have hcs := HCS.out
            have y1 : (i : Int) < m := by omega
            have y2 : (m : Int) < e := by omega
            have y3 : ¬ ((a : Int) < i) := by omega
            have y4 : (mid : Int) < e := by omega
            have y5 : (e : Int) < b := by omega
            clear hcs
            have x1 : i < m ∧ m < e := by have := HCS.out; omega
            have HCL : Hid (Calls Tryd.prog 77 #[.slice (some ⟨blk, off, none⟩) N cap, .int .i64 i, .int .i64 m, .int .i64 e, .func (.func 32) #[] #[]] wr fun e9 w9 => e9 = .returned (.tuple #[]) ∧ SWK encA 3 w0 blk off d1 w9) := Lib.hid (by have h9 := rotate_s 32 #[] blk off cap i m e d0 d w0 wr HR.out (by have := HDS.out; have := HS0.out; omega) S1.out x1.1 x1.2 (by have := HDS.out; omega) (by have := HDS.out; omega); rw [HDS.out] at h9; rw [← HD1.out, if_pos x1]; exact h9)
            clear x1 S1
            go_wp2_with fail
            clear we
            refine HCL.out.mono ?_
            rintro e9 w9 ⟨rfl, hS9⟩
            have S1 := Lib.hid hS9
            clear hS9 HCL
            generalize w9 = wr at S1 ⊢
            have x1 : ¬ (a < i ∧ i < mid) := by have := HCS.out; omega
            have S2 : Hid (SWK encA 3 w0 blk off d2 wr) := Lib.hid (by rw [← HD2.out]; rw [if_neg x1]; exact S1.out)
            clear x1 S1
            have S1 := S2
            clear S2
            have x1 : mid < e ∧ e < b := by have := HCS.out; omega
            have HCL : Hid (Calls Tryd.prog 67 #[.slice (some ⟨blk, off, none⟩) N cap, .int .i64 mid, .int .i64 e, .int .i64 b, .func (.func 32) #[] #[]] wr fun e9 w9 => e9 = .returned (.tuple #[]) ∧ SWK encA 3 w0 blk off (symF ltA (f + 1) a m b d) w9) := Lib.hid (by rw [HF.out, if_pos x1]; exact IH.out mid e b d2 wr HZ2.out S1.out (by omega) x1.1 x1.2 (by omega))
            clear x1 S1
            go_wp2_with fail
            refine HCL.out.mono ?_
            rintro e9 w9 ⟨rfl, hS9⟩
            have S1 := Lib.hid hS9
            clear hS9 HCL
            generalize w9 = wr at S1 ⊢
            go_wp2_with fail
            go_end0
            exact ⟨rfl, S1.out⟩
end Go.Proofs.YtojeclfcgnamoaaDoor
