/-
  The stable sort of attributes, walked: symMerge.
-/
import Derived.Test.YtojeclfcgnamoaaDoorSTF
import Derived.Test.YtojeclfcgnamoaaDoorSTG
import Derived.Test.YtojeclfcgnamoaaDoorSTI
import Derived.Test.YtojeclfcgnamoaaDoorSTJ
import Derived.Sort.WalkA
namespace Go.Proofs.YtojeclfcgnamoaaDoor
open Go.RowKit Go.Sort Go.Shelf Go.Lib

theorem symMerge_s (blk off cap : Nat) (d0 : Array Atr) (w0 : World) (N : Nat) (R : RowK encA 3 w0 blk off d0) (hs : d0.size = N) (hsz : N ≤ 1073741824) : ∀ (f a m b : Nat) (d : Array Atr) (w : World), d.size = N → SWK encA 3 w0 blk off d w → b - a ≤ f → a < m → m < b → b ≤ N →
    Calls Tryd.prog 67 #[.slice (some ⟨blk, off, none⟩) N cap, .int .i64 a, .int .i64 m, .int .i64 b, .func (.func 32) #[] #[]] w fun e w' => e = .returned (.tuple #[]) ∧ SWK encA 3 w0 blk off (symF ltA f a m b d) w' := by
  intro f
  induction f with
  | zero => intro a m b d w _ _ h; omega
  | succ f ih =>
    intro a m b d w hds S hf h1 h2 h3
    by_cases c1 : m - a = 1
    · exact symM1_s blk off cap d0 w0 N R hs hsz f ih a m b d w hds S hf h1 h2 h3 c1
    · by_cases c2 : b - m = 1
      · exact symM2_s blk off cap d0 w0 N R hs hsz f ih a m b d w hds S hf h1 h2 h3 c1 c2
      · obtain ⟨s, hs0⟩ : ∃ s, (if (a + b) / 2 < m then bs (fun c : Nat => !ltA d[(a + b) / 2 + m - 1 - c]! d[c]!) ((a + b) / 2 + m - b) ((a + b) / 2) else bs (fun c : Nat => !ltA d[(a + b) / 2 + m - 1 - c]! d[c]!) a m) = s := ⟨_, rfl⟩
        have hb : a ≤ s ∧ s ≤ m ∧ s ≤ (a + b) / 2 ∧ m ≤ (a + b) / 2 + m - s ∧ (a + b) / 2 ≤ (a + b) / 2 + m - s ∧ (a + b) / 2 + m - s ≤ b ∧ ((a + b) / 2 < m → s ≤ (a + b) / 2) := by
          by_cases hg : (a + b) / 2 < m
          · rw [if_pos hg] at hs0
            have h4 := bs_spec (fun c : Nat => !ltA d[(a + b) / 2 + m - 1 - c]! d[c]!) ((a + b) / 2 - ((a + b) / 2 + m - b)) ((a + b) / 2 + m - b) ((a + b) / 2) (Nat.le_refl _) (by omega)
            rw [hs0] at h4
            omega
          · rw [if_neg hg] at hs0
            have h4 := bs_spec (fun c : Nat => !ltA d[(a + b) / 2 + m - 1 - c]! d[c]!) (m - a) a m (Nat.le_refl _) (by omega)
            rw [hs0] at h4
            omega
        have key : ∀ C : Nat → Nat → Prop, C s ((a + b) / 2 + m - s) → ∀ s' e' : Nat, (if (a + b) / 2 < m then bs (fun c : Nat => !ltA d[(a + b) / 2 + m - 1 - c]! d[c]!) ((a + b) / 2 + m - b) ((a + b) / 2) else bs (fun c : Nat => !ltA d[(a + b) / 2 + m - 1 - c]! d[c]!) a m) = s' → (a + b) / 2 + m - s' = e' → C s' e' := fun C hC s' e' h5 h6 => by
          rw [hs0] at h5
          subst h5
          subst h6
          exact hC
        clear hs0
        by_cases hg : (a + b) / 2 < m
        · by_cases q1 : s < (a + b) / 2
          · by_cases q2 : a < s
            · by_cases q3 : (a + b) / 2 + m - s < b
              · exact symM3t_tt_s blk off cap d0 w0 N R hs hsz f ih a m b d w hds S hf h1 h2 h3 c1 c2 hg (key (fun s e => s < m ∧ m < e ∧ a < s ∧ s < (a + b) / 2 ∧ (a + b) / 2 < e ∧ e < b) (by omega))
              · exact symM3t_tf_s blk off cap d0 w0 N R hs hsz f ih a m b d w hds S hf h1 h2 h3 c1 c2 hg (key (fun s e => s < m ∧ m < e ∧ a < s ∧ s < (a + b) / 2 ∧ (a + b) / 2 < e ∧ ¬ e < b) (by omega))
            · by_cases q3 : (a + b) / 2 + m - s < b
              · exfalso; omega
              · exact symM3t_ff_s blk off cap d0 w0 N R hs hsz f ih a m b d w hds S hf h1 h2 h3 c1 c2 hg (key (fun s e => s < m ∧ m < e ∧ ¬ a < s ∧ (a + b) / 2 < e ∧ ¬ e < b) (by omega))
          · exact symM3t_iii_s blk off cap d0 w0 N R hs hsz f ih a m b d w hds S hf h1 h2 h3 c1 c2 hg (key (fun s e => s < m ∧ ¬ m < e ∧ a < s ∧ ¬ s < (a + b) / 2 ∧ (a + b) / 2 < e ∧ e < b) (by omega))
        · by_cases q1 : s < m
          · by_cases q2 : a < s
            · by_cases q3 : (a + b) / 2 + m - s < b
              · exact symM3f_tt_s blk off cap d0 w0 N R hs hsz f ih a m b d w hds S hf h1 h2 h3 c1 c2 hg (key (fun s e => s < m ∧ m < e ∧ a < s ∧ s < (a + b) / 2 ∧ (a + b) / 2 < e ∧ e < b) (by omega))
              · exfalso; omega
            · by_cases q3 : (a + b) / 2 + m - s < b
              · exact symM3f_ft_s blk off cap d0 w0 N R hs hsz f ih a m b d w hds S hf h1 h2 h3 c1 c2 hg (key (fun s e => s < m ∧ m < e ∧ ¬ a < s ∧ (a + b) / 2 < e ∧ e < b) (by omega))
              · exact symM3f_ff_s blk off cap d0 w0 N R hs hsz f ih a m b d w hds S hf h1 h2 h3 c1 c2 hg (key (fun s e => s < m ∧ m < e ∧ ¬ a < s ∧ (a + b) / 2 < e ∧ ¬ e < b) (by omega))
          · by_cases q2 : m < (a + b) / 2
            · exact symM3f_ii_s blk off cap d0 w0 N R hs hsz f ih a m b d w hds S hf h1 h2 h3 c1 c2 hg (key (fun s e => ¬ s < m ∧ a < s ∧ s < (a + b) / 2 ∧ ¬ (a + b) / 2 < e) (by omega))
            · exact symM3f_iv_s blk off cap d0 w0 N R hs hsz f ih a m b d w hds S hf h1 h2 h3 c1 c2 hg (key (fun s e => ¬ s < m ∧ a < s ∧ ¬ s < (a + b) / 2 ∧ ¬ (a + b) / 2 < e) (by omega))
end Go.Proofs.YtojeclfcgnamoaaDoor
