/-
  The stable sort of attributes, walked: symMerge.
  The stable sort of attributes, walked: insertion, stable, SortStableFunc.
  The stable sort of attributes, walked: stable, SortStableFunc.
-/
import Derived.Test.YtojeclfcgnamoaaDoorSTF
import Derived.Test.YtojeclfcgnamoaaDoorSTG
import Derived.Test.YtojeclfcgnamoaaDoorSTI
import Derived.Test.YtojeclfcgnamoaaDoorSTJ
import Derived.Sort.WalkA
import Derived.BigQuiet
namespace Go.Proofs.YtojeclfcgnamoaaDoor
open Go.RowKit Go.Sort Go.Shelf Go.Lib

theorem symMerge_s (blk off cap : Nat) (d0 : Array Atr) (w0 : World) (N : Nat) (R : RowK encA 3 w0 blk off d0) (hs : d0.size = N) (hsz : N ≤ 1073741824) : ∀ (f a m b : Nat) (d : Array Atr) (w : World), d.size = N → SWK encA 3 w0 blk off d w → b - a ≤ f → a < m → m < b → b ≤ N →
    Calls Tryd.prog 67 #[.slice (some ⟨blk, off, none⟩) N cap, .int .i64 a, .int .i64 m, .int .i64 b, .func (.func 32) #[] #[]] w fun e w' => e = .returned (.tuple #[]) ∧ SWK encA 3 w0 blk off (symF ltA f a m b d) w' := by
  intro f
  induction f with
  | zero => intro a m b d w _ _ h; omega
  | succ f ih =>
    intro a m b d w hds S hf h1 h2 h3
    by_cases c1 : m - a = 1
    · exact symM1_s blk off cap d0 w0 N R hs hsz f ih a m b d w hds S hf h1 h2 h3 c1
    · by_cases c2 : b - m = 1
      · exact symM2_s blk off cap d0 w0 N R hs hsz f ih a m b d w hds S hf h1 h2 h3 c1 c2
      · obtain ⟨s, hs0⟩ : ∃ s, (if (a + b) / 2 < m then bs (fun c : Nat => !ltA d[(a + b) / 2 + m - 1 - c]! d[c]!) ((a + b) / 2 + m - b) ((a + b) / 2) else bs (fun c : Nat => !ltA d[(a + b) / 2 + m - 1 - c]! d[c]!) a m) = s := ⟨_, rfl⟩
        have hb : a ≤ s ∧ s ≤ m ∧ s ≤ (a + b) / 2 ∧ m ≤ (a + b) / 2 + m - s ∧ (a + b) / 2 ≤ (a + b) / 2 + m - s ∧ (a + b) / 2 + m - s ≤ b ∧ ((a + b) / 2 < m → s ≤ (a + b) / 2) := by
          by_cases hg : (a + b) / 2 < m
          · rw [if_pos hg] at hs0
            have h4 := bs_spec (fun c : Nat => !ltA d[(a + b) / 2 + m - 1 - c]! d[c]!) ((a + b) / 2 - ((a + b) / 2 + m - b)) ((a + b) / 2 + m - b) ((a + b) / 2) (Nat.le_refl _) (by omega)
            rw [hs0] at h4
            omega
          · rw [if_neg hg] at hs0
            have h4 := bs_spec (fun c : Nat => !ltA d[(a + b) / 2 + m - 1 - c]! d[c]!) (m - a) a m (Nat.le_refl _) (by omega)
            rw [hs0] at h4
            omega
        have key : ∀ C : Nat → Nat → Prop, C s ((a + b) / 2 + m - s) → ∀ s' e' : Nat, (if (a + b) / 2 < m then bs (fun c : Nat => !ltA d[(a + b) / 2 + m - 1 - c]! d[c]!) ((a + b) / 2 + m - b) ((a + b) / 2) else bs (fun c : Nat => !ltA d[(a + b) / 2 + m - 1 - c]! d[c]!) a m) = s' → (a + b) / 2 + m - s' = e' → C s' e' := fun C hC s' e' h5 h6 => by
          rw [hs0] at h5
          subst h5
          subst h6
          exact hC
        clear hs0
        by_cases hg : (a + b) / 2 < m
        · by_cases q1 : s < (a + b) / 2
          · by_cases q2 : a < s
            · by_cases q3 : (a + b) / 2 + m - s < b
              · exact symM3t_tt_s blk off cap d0 w0 N R hs hsz f ih a m b d w hds S hf h1 h2 h3 c1 c2 hg (key (fun s e => s < m ∧ m < e ∧ a < s ∧ s < (a + b) / 2 ∧ (a + b) / 2 < e ∧ e < b) (by omega))
              · exact symM3t_tf_s blk off cap d0 w0 N R hs hsz f ih a m b d w hds S hf h1 h2 h3 c1 c2 hg (key (fun s e => s < m ∧ m < e ∧ a < s ∧ s < (a + b) / 2 ∧ (a + b) / 2 < e ∧ ¬ e < b) (by omega))
            · by_cases q3 : (a + b) / 2 + m - s < b
              · exfalso; omega
              · exact symM3t_ff_s blk off cap d0 w0 N R hs hsz f ih a m b d w hds S hf h1 h2 h3 c1 c2 hg (key (fun s e => s < m ∧ m < e ∧ ¬ a < s ∧ (a + b) / 2 < e ∧ ¬ e < b) (by omega))
          · exact symM3t_iii_s blk off cap d0 w0 N R hs hsz f ih a m b d w hds S hf h1 h2 h3 c1 c2 hg (key (fun s e => s < m ∧ ¬ m < e ∧ a < s ∧ ¬ s < (a + b) / 2 ∧ (a + b) / 2 < e ∧ e < b) (by omega))
        · by_cases q1 : s < m
          · by_cases q2 : a < s
            · by_cases q3 : (a + b) / 2 + m - s < b
              · exact symM3f_tt_s blk off cap d0 w0 N R hs hsz f ih a m b d w hds S hf h1 h2 h3 c1 c2 hg (key (fun s e => s < m ∧ m < e ∧ a < s ∧ s < (a + b) / 2 ∧ (a + b) / 2 < e ∧ e < b) (by omega))
              · exfalso; omega
            · by_cases q3 : (a + b) / 2 + m - s < b
              · exact symM3f_ft_s blk off cap d0 w0 N R hs hsz f ih a m b d w hds S hf h1 h2 h3 c1 c2 hg (key (fun s e => s < m ∧ m < e ∧ ¬ a < s ∧ (a + b) / 2 < e ∧ e < b) (by omega))
              · exact symM3f_ff_s blk off cap d0 w0 N R hs hsz f ih a m b d w hds S hf h1 h2 h3 c1 c2 hg (key (fun s e => s < m ∧ m < e ∧ ¬ a < s ∧ (a + b) / 2 < e ∧ ¬ e < b) (by omega))
          · by_cases q2 : m < (a + b) / 2
            · exact symM3f_ii_s blk off cap d0 w0 N R hs hsz f ih a m b d w hds S hf h1 h2 h3 c1 c2 hg (key (fun s e => ¬ s < m ∧ a < s ∧ s < (a + b) / 2 ∧ ¬ (a + b) / 2 < e) (by omega))
            · exact symM3f_iv_s blk off cap d0 w0 N R hs hsz f ih a m b d w hds S hf h1 h2 h3 c1 c2 hg (key (fun s e => ¬ s < m ∧ a < s ∧ ¬ s < (a + b) / 2 ∧ ¬ (a + b) / 2 < e) (by omega))
end Go.Proofs.YtojeclfcgnamoaaDoor

namespace Go.Proofs.YtojeclfcgnamoaaDoor
open Go.RowKit Go.Sort Go.Shelf Go.Lib

theorem insInner_size (a : Nat) : ∀ (j : Nat) (d : Array Atr), (insInner ltA a j d).size = d.size
  | 0, _ => rfl
  | j + 1, d => by
    unfold insInner
    split
    · rw [insInner_size a j, size_swp]
    · rfl
theorem insOuter_size (a b : Nat) : ∀ (n i : Nat) (d : Array Atr), b - i ≤ n → (insOuter ltA a b i d).size = d.size
  | 0, i, d, h => by rw [insOuter_stop _ _ _ _ _ (by omega)]
  | n + 1, i, d, h => by
    by_cases c : i < b
    · rw [insOuter_go _ _ _ _ _ c, insOuter_size a b n (i + 1) _ (by omega), insInner_size]
    · rw [insOuter_stop _ _ _ _ _ c]
theorem insertion_size (a b : Nat) (d : Array Atr) : (insertionSort ltA d a b).size = d.size := insOuter_size a b _ _ d (Nat.le_refl _)
set_option maxRecDepth 100000 in
set_option maxHeartbeats 16000000 in
theorem insertion_s (blk off cap : Nat) (d0 : Array Atr) (w0 : World) (N : Nat) (R : RowK encA 3 w0 blk off d0) (hs : d0.size = N) (hsz : N ≤ 1073741824) (a b : Nat) (d : Array Atr) (w : World) (hds : d.size = N) (S : SWK encA 3 w0 blk off d w) (hab : a ≤ b) (hb : b ≤ N) :
    Calls Tryd.prog 66 #[.slice (some ⟨blk, off, none⟩) N cap, .int .i64 a, .int .i64 b, .func (.func 32) #[] #[]] w fun e w' => e = .returned (.tuple #[]) ∧ SWK encA 3 w0 blk off (insertionSort ltA d a b) w' := by
  have S0 := Lib.hid S
  have HDS := Lib.hid hds
  have HR := Lib.hid R
  have HS0 := Lib.hid hs
  clear S R hs hds
  go_enter Tryd.func66, Tryd.ntmps66
  go_wp2_with fail
  go_loopw [8] (fun x wr => ∃ (i : Nat) (dk : Array Atr), x = .int .i64 i ∧ a < i ∧ i ≤ b + 1 ∧ Hid (dk.size = N) ∧ Hid (SWK encA 3 w0 blk off dk wr) ∧ Hid (insOuter ltA a b i dk = insOuter ltA a b (a + 1) d)) (fun x _ => b + 1 - (intOf x).toNat)
  case atStart => exact ⟨a + 1, d, by go_num, by omega, by omega, HDS, S0, Lib.hid rfl⟩
  case round =>
    obtain ⟨i, dk, rfl, g1, g2, KDS, S1, HO⟩ := hrel
    by_cases hlt : i < b
    · have hlti : (i : Int) < b := by omega
      go_wp2_with fail
      go_loopw [9] (fun x wr => ∃ (j : Nat) (dj : Array Atr), x = .int .i64 j ∧ a ≤ j ∧ j ≤ i ∧ Hid (dj.size = N) ∧ Hid (SWK encA 3 w0 blk off dj wr) ∧ Hid (insInner ltA a j dj = insInner ltA a i dk)) (fun x _ => (intOf x).toNat)
      case atStart => exact ⟨i, dk, rfl, by omega, Nat.le_refl _, KDS, S1, Lib.hid rfl⟩
      case round =>
        obtain ⟨j, dj, rfl, j1, j2, JDS, S2, HI⟩ := hrel
        by_cases hja : a < j
        · have hjai : (a : Int) < j := by omega
          obtain ⟨y, hy⟩ : ∃ y, j - 1 = y := ⟨_, rfl⟩
          have WY : Hid (IntKind.i64.wrap ((j : Int) - 1) = (y : Int)) := Lib.hid (by rw [IntKind.wrap_i64]; omega)
          have hdsz := JDS.out
          have hjN : (j : Int) < N := by omega
          have hyN : (y : Int) < N := by omega
          obtain ⟨cp1, cp2, cp3, _⟩ := swk_cells S2.out HR.out (by have := HS0.out; omega) j (by omega)
          obtain ⟨cq1, cq2, cq3, _⟩ := swk_cells S2.out HR.out (by have := HS0.out; omega) y (by omega)
          obtain ⟨⟨p1, p2, p3⟩, hP⟩ : ∃ q, dj[j]! = q := ⟨_, rfl⟩
          obtain ⟨⟨q1, q2, q3⟩, hQ⟩ : ∃ q, dj[y]! = q := ⟨_, rfl⟩
          rw [hP] at cp1 cp2 cp3
          rw [hQ] at cq1 cq2 cq3
          dsimp only at cp1 cp2 cp3 cq1 cq2 cq3
          have HP := Lib.hid hP
          have HQ := Lib.hid hQ
          obtain ⟨C, hC⟩ : ∃ C, cmpA (p1, p2, p3) (q1, q2, q3) = C := ⟨_, rfl⟩
          have HLT := Lib.hid (ltA_of hC)
          have HCMP : Hid (∀ W, SWK encA 3 w0 blk off dj W → Calls Tryd.prog 32 #[.agg #[.string p1, .string p2, .string p3], .agg #[.string q1, .string q2, .string q3]] W fun e w' => e = .returned (.int .i64 C) ∧ SWK encA 3 w0 blk off dj w') := Lib.hid fun W hW => by rw [← hC]; exact swk_cmp hW (p1, p2, p3) (q1, q2, q3)
          clear hP hQ hC
          obtain ⟨BB, hBB⟩ : ∃ B, decide (C < 0) = B := ⟨_, rfl⟩
          have hp : Hid (ltA dj[j]! dj[y]! = BB) := Lib.hid (by rw [HP.out, HQ.out, HLT.out, hBB])
          have HY := Lib.hid hy
          clear hy
          go_upto_region 4 with fail
          have wy := WY.out
          refine wp_region_held_drew (S := fun w' => w'.cell? ⟨blk, off + j * 3, none⟩ = some (.string p1) ∧ w'.cell? ⟨blk, off + j * 3 + 1, none⟩ = some (.string p2) ∧ w'.cell? ⟨blk, off + j * 3 + 2, none⟩ = some (.string p3) ∧ w'.cell? ⟨blk, off + y * 3, none⟩ = some (.string q1) ∧ w'.cell? ⟨blk, off + y * 3 + 1, none⟩ = some (.string q2) ∧ w'.cell? ⟨blk, off + y * 3 + 2, none⟩ = some (.string q3) ∧ SWK encA 3 w0 blk off dj w') (by kernel_rfl) ⟨cp1, cp2, cp3, cq1, cq2, cq3, S2.out.drew⟩ (fun hHeld => ?_)
          refine wpAnyH_take (i := 0) (oi := _) (v := ?_) rfl (by kernel_rfl) (by kernel_rfl) (by kernel_rfl) (fun _ _ _ h => h) ?_ (by assumption) ?_
          rotate_left 1
          · first
              | (refine Or.inl ⟨by rfl, ?_⟩; intro w9 hSw; (try dsimp only at hSw); go_simp; (try with_reducible rfl); done)
              | (refine Or.inr ⟨by rfl, ?_⟩; rfl)
          simp only [List.getElem_toArray, List.getElem_cons_zero, Act.put, List.setIfInBounds_toArray, List.set_cons_zero, List.set_cons_succ]
          refine wpAnyH_take (i := 1) (oi := _) (v := ?_) rfl (by kernel_rfl) (by kernel_rfl) (by kernel_rfl) (fun _ _ _ h => h) ?_ (by assumption) ?_
          rotate_left 1
          · first
              | (refine Or.inl ⟨by rfl, ?_⟩; intro w9 hSw; (try dsimp only at hSw); go_simp; (try with_reducible rfl); done)
              | (refine Or.inr ⟨by rfl, ?_⟩; rfl)
          simp only [List.getElem_toArray, List.getElem_cons_succ, List.getElem_cons_zero, Act.put, List.setIfInBounds_toArray, List.set_cons_zero, List.set_cons_succ]
          refine wpAnyH_take (i := 2) (oi := _) (v := ?_) rfl (by kernel_rfl) (by kernel_rfl) (by kernel_rfl) (fun _ _ _ h => h) ?_ (by assumption) ?_
          rotate_left 1
          · first
              | (refine Or.inl ⟨by rfl, ?_⟩; intro w9 hSw; (try dsimp only at hSw); go_simp; (try with_reducible rfl); done)
              | (refine Or.inr ⟨by rfl, ?_⟩; rfl)
          simp only [List.getElem_toArray, List.getElem_cons_succ, List.getElem_cons_zero, Act.put, List.setIfInBounds_toArray, List.set_cons_zero, List.set_cons_succ]
          refine wpAnyH_take (i := 3) (oi := _) (v := ?_) rfl (by kernel_rfl) (by kernel_rfl) (by kernel_rfl) (fun _ _ _ h => h) ?_ (by assumption) ?_
          rotate_left 1
          · first
              | (refine Or.inl ⟨by rfl, ?_⟩; intro w9 hSw; (try dsimp only at hSw); go_simp; (try with_reducible rfl); done)
              | (refine Or.inr ⟨by rfl, ?_⟩; rfl)
          simp only [List.getElem_toArray, List.getElem_cons_succ, List.getElem_cons_zero, Act.put, List.setIfInBounds_toArray, List.set_cons_zero, List.set_cons_succ]
          refine wpAnyH_take (i := 4) (oi := _) (v := ?_) rfl (by kernel_rfl) (by kernel_rfl) (by kernel_rfl) (fun _ _ _ h => h) ?_ (by assumption) ?_
          rotate_left 1
          · first
              | (refine Or.inl ⟨by rfl, ?_⟩; intro w9 hSw; (try dsimp only at hSw); go_simp; (try with_reducible rfl); done)
              | (refine Or.inr ⟨by rfl, ?_⟩; rfl)
          simp only [List.getElem_toArray, List.getElem_cons_succ, List.getElem_cons_zero, Act.put, List.setIfInBounds_toArray, List.set_cons_zero, List.set_cons_succ]
          refine wpAnyH_take (i := 5) (oi := _) (v := ?_) rfl (by kernel_rfl) (by kernel_rfl) (by kernel_rfl) (fun _ _ _ h => h) ?_ (by assumption) ?_
          rotate_left 1
          · first
              | (refine Or.inl ⟨by rfl, ?_⟩; intro w9 hSw; (try dsimp only at hSw); go_simp; (try with_reducible rfl); done)
              | (refine Or.inr ⟨by rfl, ?_⟩; rfl)
          simp only [List.getElem_toArray, List.getElem_cons_succ, List.getElem_cons_zero, Act.put, List.setIfInBounds_toArray, List.set_cons_zero, List.set_cons_succ]
          refine wpAnyH_take (i := 6) (oi := _) (v := ?_) rfl (by kernel_rfl) (by kernel_rfl) (by kernel_rfl) (fun _ _ _ h => h) ?_ (by assumption) ?_
          rotate_left 1
          · first
              | (refine Or.inl ⟨by rfl, ?_⟩; intro w9 hSw; (try dsimp only at hSw); go_simp; (try with_reducible rfl); done)
              | (refine Or.inr ⟨by rfl, ?_⟩; rfl)
          simp only [List.getElem_toArray, List.getElem_cons_succ, List.getElem_cons_zero, Act.put, List.setIfInBounds_toArray, List.set_cons_zero, List.set_cons_succ]
          refine wpAnyH_take (i := 7) (oi := _) (v := ?_) rfl (by kernel_rfl) (by kernel_rfl) (by kernel_rfl) (fun _ _ _ h => h) ?_ (by assumption) ?_
          rotate_left 1
          · first
              | (refine Or.inl ⟨by rfl, ?_⟩; intro w9 hSw; (try dsimp only at hSw); go_simp; (try with_reducible rfl); done)
              | (refine Or.inr ⟨by rfl, ?_⟩; rfl)
          simp only [List.getElem_toArray, List.getElem_cons_succ, List.getElem_cons_zero, Act.put, List.setIfInBounds_toArray, List.set_cons_zero, List.set_cons_succ]
          refine wpAnyH_take (i := 8) (oi := _) (v := ?_) rfl (by kernel_rfl) (by kernel_rfl) (by kernel_rfl) (fun _ _ _ h => h) ?_ (by assumption) ?_
          rotate_left 1
          · first
              | (refine Or.inl ⟨by rfl, ?_⟩; intro w9 hSw; (try dsimp only at hSw); go_simp; (try with_reducible rfl); done)
              | (refine Or.inr ⟨by rfl, ?_⟩; rfl)
          simp only [List.getElem_toArray, List.getElem_cons_succ, List.getElem_cons_zero, Act.put, List.setIfInBounds_toArray, List.set_cons_zero, List.set_cons_succ]
          refine wpAnyH_take (i := 9) (oi := _) (v := ?_) rfl (by kernel_rfl) (by kernel_rfl) (by kernel_rfl) (fun _ _ _ h => h) ?_ (by assumption) ?_
          rotate_left 1
          · first
              | (refine Or.inl ⟨by rfl, ?_⟩; intro w9 hSw; (try dsimp only at hSw); go_simp; (try with_reducible rfl); done)
              | (refine Or.inr ⟨by rfl, ?_⟩; rfl)
          simp only [List.getElem_toArray, List.getElem_cons_succ, List.getElem_cons_zero, Act.put, List.setIfInBounds_toArray, List.set_cons_zero, List.set_cons_succ]
          refine wpAnyH_take (i := 10) (oi := _) (v := ?_) rfl (by kernel_rfl) (by kernel_rfl) (by kernel_rfl) (fun _ _ _ h => h) ?_ (by assumption) ?_
          rotate_left 1
          · first
              | (refine Or.inl ⟨by rfl, ?_⟩; intro w9 hSw; (try dsimp only at hSw); go_simp; (try with_reducible rfl); done)
              | (refine Or.inr ⟨by rfl, ?_⟩; rfl)
          simp only [List.getElem_toArray, List.getElem_cons_succ, List.getElem_cons_zero, Act.put, List.setIfInBounds_toArray, List.set_cons_zero, List.set_cons_succ]
          refine wpAnyH_take (i := 11) (oi := _) (v := ?_) rfl (by kernel_rfl) (by kernel_rfl) (by kernel_rfl) (fun _ _ _ h => h) ?_ (by assumption) ?_
          rotate_left 1
          · first
              | (refine Or.inl ⟨by rfl, ?_⟩; intro w9 hSw; (try dsimp only at hSw); go_simp; (try with_reducible rfl); done)
              | (refine Or.inr ⟨by rfl, ?_⟩; rfl)
          simp only [List.getElem_toArray, List.getElem_cons_succ, List.getElem_cons_zero, Act.put, List.setIfInBounds_toArray, List.set_cons_zero, List.set_cons_succ]
          refine wpAnyH_take (i := 12) (oi := _) (v := ?_) rfl (by kernel_rfl) (by kernel_rfl) (by kernel_rfl) (fun _ _ _ h => h) ?_ (by assumption) ?_
          rotate_left 1
          · first
              | (refine Or.inl ⟨by rfl, ?_⟩; intro w9 hSw; (try dsimp only at hSw); go_simp; (try with_reducible rfl); done)
              | (refine Or.inr ⟨by rfl, ?_⟩; rfl)
          simp only [List.getElem_toArray, List.getElem_cons_succ, List.getElem_cons_zero, Act.put, List.setIfInBounds_toArray, List.set_cons_zero, List.set_cons_succ]
          refine wpAnyH_take (i := 13) (oi := _) (v := ?_) rfl (by kernel_rfl) (by kernel_rfl) (by kernel_rfl) (fun _ _ _ h => h) ?_ (by assumption) ?_
          rotate_left 1
          · first
              | (refine Or.inl ⟨by rfl, ?_⟩; intro w9 hSw; (try dsimp only at hSw); go_simp; (try with_reducible rfl); done)
              | (refine Or.inr ⟨by rfl, ?_⟩; rfl)
          simp only [List.getElem_toArray, List.getElem_cons_succ, List.getElem_cons_zero, Act.put, List.setIfInBounds_toArray, List.set_cons_zero, List.set_cons_succ]
          refine wpAnyH_ready (rs := [14]) (by kernel_rfl) (by simp) ?_
          refine AllReadyH.cons (o := _) rfl (fun K hK => ?_) AllReadyH.nil
          go_simp
          refine (HCMP.out _ hHeld.2.2.2.2.2.2).mono ?_
          rintro e8 w8 ⟨rfl, hS8⟩
          dsimp only
          obtain ⟨kp1, kp2, kp3, _⟩ := swk_cells hS8 HR.out (by have := HS0.out; omega) j (by omega)
          obtain ⟨kq1, kq2, kq3, _⟩ := swk_cells hS8 HR.out (by have := HS0.out; omega) y (by omega)
          rw [HP.out] at kp1 kp2 kp3
          rw [HQ.out] at kq1 kq2 kq3
          refine hK.out _ _ ⟨kp1, kp2, kp3, kq1, kq2, kq3, hS8⟩ (fun hHeld => ?_)
          clear hK K
          refine wpAnyH_take (i := 15) (oi := _) (v := ?_) rfl (by kernel_rfl) (by kernel_rfl) (by kernel_rfl) (fun _ _ _ h => h) ?_ (by assumption) ?_
          rotate_left 1
          · first
              | (refine Or.inl ⟨by rfl, ?_⟩; intro w9 hSw; (try dsimp only at hSw); go_simp; (try with_reducible rfl); done)
              | (refine Or.inr ⟨by rfl, ?_⟩; rfl)
          simp only [List.getElem_toArray, List.getElem_cons_succ, List.getElem_cons_zero, Act.put, List.setIfInBounds_toArray, List.set_cons_zero, List.set_cons_succ]
          refine wpAnyH_take (i := 16) (oi := _) (v := ?_) rfl (by kernel_rfl) (by kernel_rfl) (by kernel_rfl) (fun _ _ _ h => h) ?_ (by assumption) ?_
          rotate_left 1
          · first
              | (refine Or.inl ⟨by rfl, ?_⟩; intro w9 hSw; (try dsimp only at hSw); go_simp; (try with_reducible rfl); done)
              | (refine Or.inr ⟨by rfl, ?_⟩; rfl)
          simp only [List.getElem_toArray, List.getElem_cons_succ, List.getElem_cons_zero, Act.put, List.setIfInBounds_toArray, List.set_cons_zero, List.set_cons_succ]
          refine wpAnyH_done (by kernel_rfl) ?_ _
          have ST := Lib.hid hHeld.2.2.2.2.2.2
          clear hHeld
          clear wy hBB
          cases BB with
          | true =>
            clear cp1 cp2 cp3 cq1 cq2 cq3
            have hxy : j ≠ y := by have := HY.out; omega
            clear S2
            have S2 := ST
            clear ST
            generalize w8 = wr at S2 ⊢
            have wy := WY.out
            have SX : Hid (SWK encA 3 w0 blk off (swp dj j y) ((wr.drew.setCells blk (off + j * 3) (encA dj[y]!)).setCells blk (off + y * 3) (encA dj[j]!))) := Lib.hid (S2.out.swapped HR.out j y (by omega) (by omega))
            obtain ⟨cx0, cx1, cx2, fx0, fx1, fx2⟩ := swk_cells S2.out HR.out (by have := HS0.out; omega) j (by omega)
            obtain ⟨cy0, cy1, cy2, fy0, fy1, fy2⟩ := swk_cells S2.out HR.out (by have := HS0.out; omega) y (by omega)
            obtain ⟨⟨x1, x2, x3⟩, hX⟩ : ∃ q, dj[j]! = q := ⟨_, rfl⟩
            obtain ⟨⟨y1, y2, y3⟩, hY⟩ : ∃ q, dj[y]! = q := ⟨_, rfl⟩
            rw [hX] at cx0 cx1 cx2 SX
            rw [hY] at cy0 cy1 cy2 SX
            dsimp only at cx0 cx1 cx2 cy0 cy1 cy2
            have gy0 : (wr.drew.setCells blk (off + j * 3) [.string y1, .string y2, .string y3]).cell? ⟨blk, off + y * 3, none⟩ = some (.string y1) := (far3 wr.drew blk off j y hxy _ _ _ 0 (by decide)).trans cy0
            have gy1 : (wr.drew.setCells blk (off + j * 3) [.string y1, .string y2, .string y3]).cell? ⟨blk, off + y * 3 + 1, none⟩ = some (.string y2) := (far3 wr.drew blk off j y hxy _ _ _ 1 (by decide)).trans cy1
            have gy2 : (wr.drew.setCells blk (off + j * 3) [.string y1, .string y2, .string y3]).cell? ⟨blk, off + y * 3 + 2, none⟩ = some (.string y3) := (far3 wr.drew blk off j y hxy _ _ _ 2 (by decide)).trans cy2
            have hy0 : (wr.drew.setCells blk (off + j * 3) [.string y1, .string y2, .string y3]).frozen? ⟨blk, off + y * 3, none⟩ = false := (World.frozen?_setCells _ _ _ _ _).trans fy0
            have hy1 : (wr.drew.setCells blk (off + j * 3) [.string y1, .string y2, .string y3]).frozen? ⟨blk, off + y * 3 + 1, none⟩ = false := (World.frozen?_setCells _ _ _ _ _).trans fy1
            have hy2 : (wr.drew.setCells blk (off + j * 3) [.string y1, .string y2, .string y3]).frozen? ⟨blk, off + y * 3 + 2, none⟩ = false := (World.frozen?_setCells _ _ _ _ _).trans fy2
            clear hX hY
            clear S2
            go_upto_region 6 with fail
            go_big_region
            rw [swap_world]
            have S3 : Hid (SWK encA 3 w0 blk off (swp dj j y) ((wr.drew.setCells blk (off + j * 3) [.string y1, .string y2, .string y3]).setCells blk (off + y * 3) [.string x1, .string x2, .string x3])) := SX
            generalize ((wr.drew.setCells blk (off + j * 3) [.string y1, .string y2, .string y3]).setCells blk (off + y * 3) [.string x1, .string x2, .string x3]) = w2 at S3 ⊢
            clear SX cx0 cx1 cx2 fx0 fx1 fx2 cy0 cy1 cy2 fy0 fy1 fy2 gy0 gy1 gy2 hy0 hy1 hy2
            go_wp2_with fail
            clear wy
            have hy2 := HY.out
            exact ⟨⟨y, swp dj j y, rfl, by omega, by omega, Lib.hid (by rw [size_swp]; exact JDS.out), S3, Lib.hid (by rw [← HI.out, insInner_go ltA a j dj hja (by rw [HY.out]; exact hp.out), HY.out])⟩, by simp [intOf]; omega⟩
          | false =>
            have hst : insInner ltA a j dj = dj := insInner_stop ltA _ _ _ (.inr (by rw [HY.out]; exact hp.out))
            have HF : Hid (insOuter ltA a b (i + 1) dj = insOuter ltA a b (a + 1) d) := Lib.hid (by rw [← HO.out, insOuter_go _ _ _ _ _ hlt, ← HI.out, hst])
            clear hst
            go_wp2_with fail
            exact ⟨⟨i + 1, dj, by go_num, by omega, by omega, JDS, ST, HF⟩, by simp [intOf]; omega⟩
        · have hjai : ¬ ((a : Int) < j) := by omega
          have hst : insInner ltA a j dj = dj := insInner_stop ltA _ _ _ (.inl (by omega))
          have HF : Hid (insOuter ltA a b (i + 1) dj = insOuter ltA a b (a + 1) d) := Lib.hid (by rw [← HO.out, insOuter_go _ _ _ _ _ hlt, ← HI.out, hst])
          clear hst
          go_wp2_with fail
          go_quiet (fail)
          go_wp2_with fail
          exact ⟨⟨i + 1, dj, by go_num, by omega, by omega, JDS, Lib.hid (S2.out.drewN _), HF⟩, by simp [intOf]; omega⟩
    · have hfin : SWK encA 3 w0 blk off (insertionSort ltA d a b) wr := by
        unfold insertionSort
        rw [← HO.out, insOuter_stop _ _ _ _ _ hlt]
        exact S1.out
      have HFN := Lib.hid hfin
      have hlti : ¬ ((i : Int) < b) := by omega
      clear hfin
      go_wp2_with fail
      go_end0
      exact ⟨rfl, HFN.out⟩
end Go.Proofs.YtojeclfcgnamoaaDoor

namespace Go.Proofs.YtojeclfcgnamoaaDoor
open Go.RowKit Go.Sort Go.Shelf Go.Lib

theorem insB_size (n : Nat) : ∀ (f a : Nat) (d : Array Atr), (insB ltA n f a d).size = d.size
  | 0, a, d => by unfold insB; exact insertion_size _ _ _
  | f + 1, a, d => by
    unfold insB
    split
    · rw [insB_size n f, insertion_size]
    · exact insertion_size _ _ _
theorem mrgP_size (z n : Nat) : ∀ (f a : Nat) (d : Array Atr), (mrgP ltA z n f a d).size = d.size
  | 0, a, d => rfl
  | f + 1, a, d => by
    unfold mrgP
    split
    · rw [mrgP_size z n f, symF_size]
    · split
      · exact symF_size _ _ _ _ _ _
      · rfl
set_option maxRecDepth 100000 in
set_option maxHeartbeats 16000000 in
theorem stable_s (blk off cap : Nat) (d0 : Array Atr) (w0 : World) (N : Nat) (R : RowK encA 3 w0 blk off d0) (hs : d0.size = N) (hsz : N ≤ 1073741824) (w : World) (S : SWK encA 3 w0 blk off d0 w) :
    Calls Tryd.prog 54 #[.slice (some ⟨blk, off, none⟩) N cap, .int .i64 N, .func (.func 32) #[] #[]] w fun e w' => e = .returned (.tuple #[]) ∧ SWK encA 3 w0 blk off (stableF ltA N d0) w' := by
  have S0 := Lib.hid S
  have HDS := Lib.hid hs
  have HINS : Hid (∀ (a b : Nat) (d : Array Atr) (w : World), d.size = N → SWK encA 3 w0 blk off d w → a ≤ b → b ≤ N → Calls Tryd.prog 66 #[.slice (some ⟨blk, off, none⟩) N cap, .int .i64 a, .int .i64 b, .func (.func 32) #[] #[]] w fun e w' => e = .returned (.tuple #[]) ∧ SWK encA 3 w0 blk off (insertionSort ltA d a b) w') := Lib.hid fun a b d w h1 h2 h3 h4 => insertion_s blk off cap d0 w0 N R hs hsz a b d w h1 h2 h3 h4
  have HSYM := Lib.hid (symMerge_s blk off cap d0 w0 N R hs hsz)
  clear S R hs
  go_enter Tryd.func54, Tryd.ntmps54
  go_wp2_with fail
  go_loopw [7, 8] (fun x y wr => ∃ (a b f : Nat) (dk : Array Atr), x = .int .i64 a ∧ y = .int .i64 b ∧ b = a + 20 ∧ a ≤ N ∧ N ≤ a + f ∧ Hid (dk.size = N) ∧ Hid (SWK encA 3 w0 blk off dk wr) ∧ Hid (insB ltA N f a dk = insB ltA N N 0 d0)) (fun _ y _ => N + 20 - (intOf y).toNat)
  case atStart => exact ⟨0, 20, N, d0, rfl, rfl, rfl, by omega, by omega, HDS, S0, Lib.hid rfl⟩
  case round =>
    obtain ⟨a, b, f, dk, rfl, rfl, hb, ha, hf, KDS, S1, HI⟩ := hrel
    have HB := Lib.hid hb
    by_cases hle : b ≤ N
    · have hlei : (b : Int) ≤ N := by omega
      obtain ⟨f, rfl⟩ : ∃ f', f = f' + 1 := ⟨f - 1, by omega⟩
      have HC := Lib.hid (HINS.out a b dk wr KDS.out S1.out (by omega) hle)
      have HI2 : Hid (insB ltA N f b (insertionSort ltA dk a b) = insB ltA N N 0 d0) := Lib.hid (by rw [← HI.out, insB, if_pos (by omega), hb])
      clear S1 HI hb
      go_wp2_with fail
      refine HC.out.mono ?_
      rintro e2 w2 ⟨rfl, hS2⟩
      have HS2 := Lib.hid hS2
      clear hS2 HC
      go_wp2_with fail
      exact ⟨⟨b, b + 20, f, insertionSort ltA dk a b, rfl, by go_num, rfl, hle, by have := HB.out; omega, Lib.hid (by rw [insertion_size]; exact KDS.out), HS2, HI2⟩, by have := HB.out; simp [intOf]; omega⟩
    · have hlei : ¬ ((b : Int) ≤ N) := by omega
      have HC := Lib.hid (HINS.out a N dk wr KDS.out S1.out ha (Nat.le_refl _))
      obtain ⟨d1, hd1⟩ : ∃ d1, insertionSort ltA dk a N = d1 := ⟨_, rfl⟩
      have HD1 : Hid (d1.size = N) := Lib.hid (by rw [← hd1, insertion_size]; exact KDS.out)
      rw [hd1] at HC
      have HE1 : Hid (stF ltA N (N + 1) 20 d1 = stableF ltA N d0) := Lib.hid (by
        unfold stableF
        rw [← HI.out, ← hd1]
        cases f with
        | zero => rfl
        | succ f => rw [insB, if_neg (by omega)])
      clear S1 HI hd1 hb
      go_wp2_with fail
      refine HC.out.mono ?_
      rintro e2 w2 ⟨rfl, hS2⟩
      have HS2 := Lib.hid hS2
      clear hS2 HC KDS hlei hle
      go_wp2_with fail
      go_loopw [6] (fun x wr => ∃ (z f : Nat) (dz : Array Atr), x = .int .i64 z ∧ 20 ≤ z ∧ z ≤ 2 * N + 20 ∧ N ≤ z + f ∧ Hid (dz.size = N) ∧ Hid (SWK encA 3 w0 blk off dz wr) ∧ Hid (stF ltA N f z dz = stableF ltA N d0)) (fun x _ => 2 * N + 20 - (intOf x).toNat)
      case atStart => exact ⟨20, N + 1, d1, rfl, Nat.le_refl _, by omega, by omega, HD1, HS2, HE1⟩
      case round =>
        obtain ⟨z, f, dz, rfl, hz1, hz2, hf, ZDS, S1, HZ⟩ := hrel
        by_cases hzn : z < N
        · have hzni : (z : Int) < N := by omega
          obtain ⟨f, rfl⟩ : ∃ f', f = f' + 1 := ⟨f - 1, by omega⟩
          have HZ2 : Hid (stF ltA N f (z * 2) (mrgP ltA z N (N + 1) 0 dz) = stableF ltA N d0) := Lib.hid (by rw [← HZ.out, stF, if_pos hzn])
          obtain ⟨zz, hzz⟩ : ∃ zz, 2 * z = zz := ⟨_, rfl⟩
          have WZ : Hid (IntKind.i64.wrap (2 * (z : Int)) = (zz : Int)) := Lib.hid (by rw [IntKind.wrap_i64]; omega)
          have HZZ := Lib.hid hzz
          clear HZ hzz
          have wz := WZ.out
          go_wp2_with fail
          clear wz
          go_loopw [7, 8] (fun x y wr => ∃ (a b g : Nat) (dk : Array Atr), x = .int .i64 a ∧ y = .int .i64 b ∧ b = a + zz ∧ a ≤ N ∧ N < a + g ∧ Hid (dk.size = N) ∧ Hid (SWK encA 3 w0 blk off dk wr) ∧ Hid (mrgP ltA z N g a dk = mrgP ltA z N (N + 1) 0 dz)) (fun _ y _ => N + zz - (intOf y).toNat)
          case atStart => exact ⟨0, zz, N + 1, dz, rfl, rfl, by omega, by omega, by omega, ZDS, S1, Lib.hid rfl⟩
          case round =>
            obtain ⟨a, b, g, dk, rfl, rfl, hb, ha, hg, KDS, S2, HM⟩ := hrel
            have hzz := HZZ.out
            obtain ⟨g, rfl⟩ : ∃ g', g = g' + 1 := ⟨g - 1, by omega⟩
            obtain ⟨m, hm⟩ : ∃ m, a + z = m := ⟨_, rfl⟩
            have WM : Hid (IntKind.i64.wrap ((a : Int) + z) = (m : Int)) := Lib.hid (by rw [IntKind.wrap_i64]; omega)
            by_cases hle : b ≤ N
            · have hlei : (b : Int) ≤ N := by omega
              have HC := Lib.hid (HSYM.out zz a m b dk wr KDS.out S2.out (by omega) (by omega) (by omega) hle)
              have HM2 : Hid (mrgP ltA z N g b (symF ltA zz a m b dk) = mrgP ltA z N (N + 1) 0 dz) := Lib.hid (by rw [← HM.out, mrgP, if_pos (by omega), hm, hzz, hb])
              have HB2 := Lib.hid hb
              have WB : Hid (IntKind.i64.wrap ((b : Int) + zz) = ((b + zz : Nat) : Int)) := Lib.hid (by rw [IntKind.wrap_i64]; omega)
              clear S2 HM hm hb hzz
              have wm := WM.out
              go_wp2_with fail
              refine HC.out.mono ?_
              rintro e2 w2 ⟨rfl, hS2⟩
              have HS2 := Lib.hid hS2
              clear hS2 HC wm
              have wz := WZ.out
              have wb := WB.out
              go_wp2_with fail
              clear wz wb
              exact ⟨⟨b, b + zz, g, symF ltA zz a m b dk, rfl, by go_num, rfl, hle, by have := HB2.out; have := HZZ.out; omega, Lib.hid (by rw [symF_size]; exact KDS.out), HS2, HM2⟩, by have := HB2.out; have := HZZ.out; simp [intOf]; omega⟩
            · have hlei : ¬ ((b : Int) ≤ N) := by omega
              have WZ2 : Hid (IntKind.i64.wrap ((z : Int) * 2) = ((z * 2 : Nat) : Int)) := Lib.hid (by rw [IntKind.wrap_i64]; omega)
              by_cases hmn : m < N
              · have hmni : (m : Int) < N := by omega
                have HC := Lib.hid (HSYM.out (N - a) a m N dk wr KDS.out S2.out (Nat.le_refl _) (by omega) hmn (Nat.le_refl _))
                have HM2 : Hid (symF ltA (N - a) a m N dk = mrgP ltA z N (N + 1) 0 dz) := Lib.hid (by rw [← HM.out, mrgP, if_neg (by omega), if_pos (by omega), hm])
                clear S2 HM hm hb hzz
                have wm := WM.out
                go_wp2_with fail
                refine HC.out.mono ?_
                rintro e2 w2 ⟨rfl, hS2⟩
                have HS2 := Lib.hid hS2
                clear hS2 HC wm
                have wz := WZ2.out
                go_wp2_with fail
                clear wz
                exact ⟨⟨z * 2, f, mrgP ltA z N (N + 1) 0 dz, rfl, by omega, by omega, by omega, Lib.hid (by rw [mrgP_size]; exact ZDS.out), by rw [← HM2.out]; exact HS2, HZ2⟩, by simp [intOf]; omega⟩
              · have hmni : ¬ ((m : Int) < N) := by omega
                have HM2 : Hid (dk = mrgP ltA z N (N + 1) 0 dz) := Lib.hid (by rw [← HM.out, mrgP, if_neg (by omega), if_neg (by omega)])
                clear HM hm hb hzz
                have wm := WM.out
                have wz := WZ2.out
                go_wp2_with fail
                clear wz wm
                exact ⟨⟨z * 2, f, mrgP ltA z N (N + 1) 0 dz, rfl, by omega, by omega, by omega, Lib.hid (by rw [mrgP_size]; exact ZDS.out), by rw [← HM2.out]; exact S2, HZ2⟩, by simp [intOf]; omega⟩
        · have hzni : ¬ ((z : Int) < N) := by omega
          have hfin : SWK encA 3 w0 blk off (stableF ltA N d0) wr := by
            rw [← HZ.out]
            cases f with
            | zero => exact S1.out
            | succ f => rw [stF, if_neg hzn]; exact S1.out
          have HFN := Lib.hid hfin
          clear hfin S1 HZ
          go_wp2_with fail
          go_end0
          exact ⟨rfl, HFN.out⟩
set_option maxRecDepth 100000 in
set_option maxHeartbeats 16000000 in
theorem sortStable_s (blk off cap : Nat) (d0 : Array Atr) (w0 : World) (R : RowK encA 3 w0 blk off d0) (hsz : d0.size ≤ 1073741824) (w : World) (S : SWK encA 3 w0 blk off d0 w) :
    Calls Tryd.prog 31 #[.slice (some ⟨blk, off, none⟩) d0.size cap, .func (.func 32) #[] #[]] w fun e w' => e = .returned (.tuple #[]) ∧ SWK encA 3 w0 blk off (stableF ltA d0.size d0) w' := by
  have HC := Lib.hid (stable_s blk off cap d0 w0 d0.size R rfl hsz w S)
  clear R S
  go_enter Tryd.func31, Tryd.ntmps31
  go_wp2_with fail
  refine HC.out.mono ?_
  rintro e2 w2 ⟨rfl, hS2⟩
  have HS2 := Lib.hid hS2
  clear hS2 HC
  go_wp2_with fail
  go_end0
  exact ⟨rfl, HS2.out⟩
end Go.Proofs.YtojeclfcgnamoaaDoor
