/-
  The walk of the document's answer for utf: Rune: by how many bytes the first one announces.
-/
import Derived.Test.YtjnaikojoemkaaaGreatDoorF
import Derived.Test.YtjnaikojoemkaaaGreatDoorG
namespace Go.Proofs.YtjnaikojoemkaaaGreatDoor
open Go.RowKit

def plen (c : Int) : Nat := (putI c).length
def RetII (a b : Int) (w : World) (e : Ending) (w' : World) : Prop := e = .returned (.tuple #[.int .i64 a, .int .i64 b]) ∧ Bel w w'
def RetLen (n : Nat) (w : World) (e : Ending) (w' : World) : Prop := ∃ a cap, e = .returned (.slice (some a) n cap) ∧ Bel w w'
theorem rput_len (c : Int) (h0 : 0 ≤ c) (h1 : c ≤ 1114111) (w : World) : Calls Tryz.prog 43 #[.int .i64 c] w (RetLen (plen c) w) :=
  (rput_c c h0 h1 w).mono fun e w' ⟨v, he, ⟨b, off, cap, hv, _⟩, hb⟩ => ⟨⟨b, off, none⟩, cap, by rw [he, hv]; simp [u8s, plen], hb⟩
theorem fine_bounds {c : Int} (h : fineC c = true) : 0 ≤ c ∧ c ≤ 1114111 := by
  unfold fineC at h; simp only [decide_eq_true_eq] at h; omega

/-- What Rune answers where k bytes are announced, the first one tells t, the others L. -/
def rrS (k : Nat) (t L : Int) : Int × Int := if L < 0 ∨ fineC (t + L) = false ∨ plen (t + L) ≠ k then (0, 0) else (t + L, k)

theorem rlow_zero (a : Addr) (c : Nat) (w : World) : Calls Tryz.prog 57 #[.slice (some a) 0 c] w fun e w' => e = .returned (.int .i64 0) ∧ w = w' := by
  go_enter Tryz.func57, Tryz.ntmps57
  go_wp2_with fail
  refine wp_loop_rounds 1 ?_
  rw [rounds_succ]
  go_wp2_with fail
  go_ret
  exact ⟨rfl, rfl⟩

set_option maxHeartbeats 1000000 in
theorem rrune1_c (b off cap n : Nat) (z L : Int) (w : World) (hz0 : 0 ≤ z) (hz1 : z < 128) (hn : 1 ≤ n) (hn2 : n ≤ 4294967280) (_hcap : n ≤ cap) (hL : L < 1) (hL0 : -1 ≤ L)
    (hc0 : w.cell? ⟨b, off, none⟩ = some (.int .u8 z)) (hc1 : 1 < cap)
    (hlow : ∀ (a : Addr) c, Calls Tryz.prog 57 #[.slice (some a) 0 c] w fun e w' => e = .returned (.int .i64 L) ∧ w = w') :
    Calls Tryz.prog 37 #[.slice (some ⟨b, off, none⟩) n cap] w (RetII (rrS 1 z L).1 (rrS 1 z L).2 w) := by
  obtain ⟨⟨R1, R2⟩, hR⟩ : ∃ R, rrS 1 z L = R := ⟨_, rfl⟩
  rw [hR]
  have HR := Lib.hid hR
  have HL := Lib.hid hlow
  have hz : ((n : Int) == 0) = false := by simp; omega
  have hn' : (1 : Int) ≤ n := by omega
  clear hR hlow
  by_cases hLn : L < 0
  · go_enter Tryz.func37, Tryz.ntmps37
    go_wp2_with (go_at_call 57; refine (HL.out _ _).mono ?_; rintro e w' ⟨rfl, rfl⟩)
    go_ret2
    refine ⟨tup2 (int_eq ?_) (int_eq ?_), Bel.refl _⟩
    all_goals have hr := HR.out
    all_goals go_light
    all_goals (rw [rrS, if_pos (Or.inl hLn)] at hr; grind)
  · have hLp : 0 ≤ L := by omega
    clear hLn
    go_enter Tryz.func37, Tryz.ntmps37
    go_wp2_with (go_at_call 57; refine (HL.out _ _).mono ?_; rintro e w' ⟨rfl, rfl⟩)
    refine wp_loop_rounds 1 ?_
    rw [rounds_succ]
    go_wp2_with (first
      | (go_at_call 42; refine (rfine_c _ _).mono ?_; rintro e w' ⟨rfl, rfl⟩)
      | (go_at_call 43; refine (rput_len _ (by omega) (fine_bounds (by assumption)).2 _).mono ?_; rintro e w' ⟨a, cp, rfl, hb⟩))
    all_goals go_ret2
    all_goals have hr := HR.out
    all_goals refine ⟨tup2 (int_eq ?_) (int_eq ?_), by first | assumption | exact Bel.refl _⟩
    all_goals go_light
    all_goals (unfold rrS at hr; grind)

set_option maxHeartbeats 1000000 in
theorem rrune1b_c (b off n : Nat) (z L : Int) (w : World) (hz0 : 0 ≤ z) (hz1 : z < 128) (hn : 1 ≤ n) (hn2 : n ≤ 4294967280) (hcap : n ≤ 1) (hL : L < 1) (hL0 : -1 ≤ L)
    (hc0 : w.cell? ⟨b, off, none⟩ = some (.int .u8 z))
    (hlow : ∀ (a : Addr) c, Calls Tryz.prog 57 #[.slice (some a) 0 c] w fun e w' => e = .returned (.int .i64 L) ∧ w = w') :
    Calls Tryz.prog 37 #[.slice (some ⟨b, off, none⟩) n 1] w (RetII (rrS 1 z L).1 (rrS 1 z L).2 w) := by
  obtain ⟨⟨R1, R2⟩, hR⟩ : ∃ R, rrS 1 z L = R := ⟨_, rfl⟩
  rw [hR]
  have HR := Lib.hid hR
  have HL := Lib.hid hlow
  have hz : ((n : Int) == 0) = false := by simp; omega
  have hn' : (1 : Int) ≤ n := by omega
  clear hR hlow
  by_cases hLn : L < 0
  · go_enter Tryz.func37, Tryz.ntmps37
    go_wp2_with (go_at_call 57; refine (HL.out _ _).mono ?_; rintro e w' ⟨rfl, rfl⟩)
    go_ret2
    refine ⟨tup2 (int_eq ?_) (int_eq ?_), Bel.refl _⟩
    all_goals have hr := HR.out
    all_goals go_light
    all_goals (rw [rrS, if_pos (Or.inl hLn)] at hr; grind)
  · have hLp : 0 ≤ L := by omega
    clear hLn
    go_enter Tryz.func37, Tryz.ntmps37
    go_wp2_with (go_at_call 57; refine (HL.out _ _).mono ?_; rintro e w' ⟨rfl, rfl⟩)
    refine wp_loop_rounds 1 ?_
    rw [rounds_succ]
    go_wp2_with (first
      | (go_at_call 42; refine (rfine_c _ _).mono ?_; rintro e w' ⟨rfl, rfl⟩)
      | (go_at_call 43; refine (rput_len _ (by omega) (fine_bounds (by assumption)).2 _).mono ?_; rintro e w' ⟨a, cp, rfl, hb⟩))
    all_goals go_ret2
    all_goals have hr := HR.out
    all_goals refine ⟨tup2 (int_eq ?_) (int_eq ?_), by first | assumption | exact Bel.refl _⟩
    all_goals go_light
    all_goals (unfold rrS at hr; grind)

set_option maxHeartbeats 1000000 in
theorem rrune2_c (b off cap n : Nat) (z L : Int) (w : World) (hz0 : 192 ≤ z) (hz1 : z < 224) (hn : 2 ≤ n) (hn2 : n ≤ 4294967280) (hcap : n ≤ cap) (hL : L < 64) (hL0 : -1 ≤ L)
    (hc0 : w.cell? ⟨b, off, none⟩ = some (.int .u8 z))
    (hlow : ∀ c, Calls Tryz.prog 57 #[.slice (some ⟨b, off + 1, none⟩) 1 c] w fun e w' => e = .returned (.int .i64 L) ∧ w = w') :
    Calls Tryz.prog 37 #[.slice (some ⟨b, off, none⟩) n cap] w (RetII (rrS 2 (64 * (z - 192)) L).1 (rrS 2 (64 * (z - 192)) L).2 w) := by
  obtain ⟨⟨R1, R2⟩, hR⟩ : ∃ R, rrS 2 (64 * (z - 192)) L = R := ⟨_, rfl⟩
  rw [hR]
  have HR := Lib.hid hR
  have HL := Lib.hid hlow
  have hz : ((n : Int) == 0) = false := by simp; omega
  have hn' : (2 : Int) ≤ n := by omega
  clear hR hlow
  by_cases hLn : L < 0
  · go_enter Tryz.func37, Tryz.ntmps37
    go_wp2_with (go_at_call 57; refine (HL.out _).mono ?_; rintro e w' ⟨rfl, rfl⟩)
    go_ret2
    refine ⟨tup2 (int_eq ?_) (int_eq ?_), Bel.refl _⟩
    all_goals have hr := HR.out
    all_goals go_light
    all_goals (rw [rrS, if_pos (Or.inl hLn)] at hr; grind)
  · have hLp : 0 ≤ L := by omega
    clear hLn
    go_enter Tryz.func37, Tryz.ntmps37
    go_wp2_with (go_at_call 57; refine (HL.out _).mono ?_; rintro e w' ⟨rfl, rfl⟩)
    refine wp_loop_rounds 2 ?_
    rw [rounds_succ]
    go_wp2_with fail
    rw [rounds_succ]
    go_wp2_with (first
      | (go_at_call 42; refine (rfine_c _ _).mono ?_; rintro e w' ⟨rfl, rfl⟩)
      | (go_at_call 43; refine (rput_len _ (by omega) (fine_bounds (by assumption)).2 _).mono ?_; rintro e w' ⟨a, cp, rfl, hb⟩))
    all_goals go_ret2
    all_goals have hr := HR.out
    all_goals refine ⟨tup2 (int_eq ?_) (int_eq ?_), by first | assumption | exact Bel.refl _⟩
    all_goals go_light
    all_goals (unfold rrS at hr; grind)

set_option maxHeartbeats 1000000 in
theorem rrune3_c (b off cap n : Nat) (z L : Int) (w : World) (hz0 : 224 ≤ z) (hz1 : z < 240) (hn : 3 ≤ n) (hn2 : n ≤ 4294967280) (hcap : n ≤ cap) (hL : L < 4096) (hL0 : -1 ≤ L)
    (hc0 : w.cell? ⟨b, off, none⟩ = some (.int .u8 z))
    (hlow : ∀ c, Calls Tryz.prog 57 #[.slice (some ⟨b, off + 1, none⟩) 2 c] w fun e w' => e = .returned (.int .i64 L) ∧ w = w') :
    Calls Tryz.prog 37 #[.slice (some ⟨b, off, none⟩) n cap] w (RetII (rrS 3 (64 * (64 * (z - 224))) L).1 (rrS 3 (64 * (64 * (z - 224))) L).2 w) := by
  obtain ⟨⟨R1, R2⟩, hR⟩ : ∃ R, rrS 3 (64 * (64 * (z - 224))) L = R := ⟨_, rfl⟩
  rw [hR]
  have HR := Lib.hid hR
  have HL := Lib.hid hlow
  have hz : ((n : Int) == 0) = false := by simp; omega
  have hn' : (3 : Int) ≤ n := by omega
  clear hR hlow
  by_cases hLn : L < 0
  · go_enter Tryz.func37, Tryz.ntmps37
    go_wp2_with (go_at_call 57; refine (HL.out _).mono ?_; rintro e w' ⟨rfl, rfl⟩)
    go_ret2
    refine ⟨tup2 (int_eq ?_) (int_eq ?_), Bel.refl _⟩
    all_goals have hr := HR.out
    all_goals go_light
    all_goals (rw [rrS, if_pos (Or.inl hLn)] at hr; grind)
  · have hLp : 0 ≤ L := by omega
    clear hLn
    go_enter Tryz.func37, Tryz.ntmps37
    go_wp2_with (go_at_call 57; refine (HL.out _).mono ?_; rintro e w' ⟨rfl, rfl⟩)
    refine wp_loop_rounds 3 ?_
    rw [rounds_succ]
    go_wp2_with fail
    rw [rounds_succ]
    go_wp2_with fail
    rw [rounds_succ]
    go_wp2_with (first
      | (go_at_call 42; refine (rfine_c _ _).mono ?_; rintro e w' ⟨rfl, rfl⟩)
      | (go_at_call 43; refine (rput_len _ (by omega) (fine_bounds (by assumption)).2 _).mono ?_; rintro e w' ⟨a, cp, rfl, hb⟩))
    all_goals go_ret2
    all_goals have hr := HR.out
    all_goals refine ⟨tup2 (int_eq ?_) (int_eq ?_), by first | assumption | exact Bel.refl _⟩
    all_goals go_light
    all_goals (unfold rrS at hr; grind)

set_option maxHeartbeats 1000000 in
theorem rrune4_c (b off cap n : Nat) (z L : Int) (w : World) (hz0 : 240 ≤ z) (hz1 : z < 248) (hn : 4 ≤ n) (hn2 : n ≤ 4294967280) (hcap : n ≤ cap) (hL : L < 262144) (hL0 : -1 ≤ L)
    (hc0 : w.cell? ⟨b, off, none⟩ = some (.int .u8 z))
    (hlow : ∀ c, Calls Tryz.prog 57 #[.slice (some ⟨b, off + 1, none⟩) 3 c] w fun e w' => e = .returned (.int .i64 L) ∧ w = w') :
    Calls Tryz.prog 37 #[.slice (some ⟨b, off, none⟩) n cap] w (RetII (rrS 4 (64 * (64 * (64 * (z - 240)))) L).1 (rrS 4 (64 * (64 * (64 * (z - 240)))) L).2 w) := by
  obtain ⟨⟨R1, R2⟩, hR⟩ : ∃ R, rrS 4 (64 * (64 * (64 * (z - 240)))) L = R := ⟨_, rfl⟩
  rw [hR]
  have HR := Lib.hid hR
  have HL := Lib.hid hlow
  have hz : ((n : Int) == 0) = false := by simp; omega
  have hn' : (4 : Int) ≤ n := by omega
  clear hR hlow
  by_cases hLn : L < 0
  · go_enter Tryz.func37, Tryz.ntmps37
    go_wp2_with (go_at_call 57; refine (HL.out _).mono ?_; rintro e w' ⟨rfl, rfl⟩)
    go_ret2
    refine ⟨tup2 (int_eq ?_) (int_eq ?_), Bel.refl _⟩
    all_goals have hr := HR.out
    all_goals go_light
    all_goals (rw [rrS, if_pos (Or.inl hLn)] at hr; grind)
  · have hLp : 0 ≤ L := by omega
    clear hLn
    go_enter Tryz.func37, Tryz.ntmps37
    go_wp2_with (go_at_call 57; refine (HL.out _).mono ?_; rintro e w' ⟨rfl, rfl⟩)
    refine wp_loop_rounds 4 ?_
    rw [rounds_succ]
    go_wp2_with fail
    rw [rounds_succ]
    go_wp2_with fail
    rw [rounds_succ]
    go_wp2_with fail
    rw [rounds_succ]
    go_wp2_with (first
      | (go_at_call 42; refine (rfine_c _ _).mono ?_; rintro e w' ⟨rfl, rfl⟩)
      | (go_at_call 43; refine (rput_len _ (by omega) (fine_bounds (by assumption)).2 _).mono ?_; rintro e w' ⟨a, cp, rfl, hb⟩))
    all_goals go_ret2
    all_goals have hr := HR.out
    all_goals refine ⟨tup2 (int_eq ?_) (int_eq ?_), by first | assumption | exact Bel.refl _⟩
    all_goals go_light
    all_goals (unfold rrS at hr; grind)

end Go.Proofs.YtjnaikojoemkaaaGreatDoor
