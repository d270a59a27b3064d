/-
  The walks of the layer number: digits, fail, check, both.
-/
import Derived.Test.YtdpmibkiihddjaaDoorNB
import Derived.Test.YtdpmibkiihddjaaDoorNC
import Derived.IntWalk
namespace Go.Proofs.YtdpmibkiihddjaaDoor
open Go.RowKit

def dl (s : ByteArray) : List UInt8 := s.data.toList
theorem dl_size (s : ByteArray) : (dl s).length = s.size := rfl
theorem dl_empty (s : ByteArray) : s.toList.isEmpty = (dl s).isEmpty := by rw [Lib.toList_data]; rfl
theorem dl_drop (s : ByteArray) (k : Nat) (h : k < s.size) : (dl s).drop k = s.get! k :: (dl s).drop (k + 1) := by
  have hl : k < s.data.toList.length := h
  unfold dl
  rw [List.drop_eq_getElem_cons hl, get_bang s k h]
  simp

set_option maxHeartbeats 1000000 in
theorem digits_c (s : ByteArray) (hs : s.size ≤ maxLen) (w : World) :
    Calls Tryd.prog 23 #[.string s] w fun e w' => e = .returned (.bool (digitsL (dl s))) ∧ w = w' := by
  unfold maxLen at hs
  obtain ⟨A, hA⟩ : ∃ A, (dl s).all isDig = A := ⟨_, rfl⟩
  have hd : digitsL (dl s) = (A && !(dl s).isEmpty) := by rw [← hA]; rfl
  have HA := Lib.hid hA
  have HD := Lib.hid hd
  clear hA hd
  go_enter Tryd.func23, Tryd.ntmps23
  go_wp2_with fail
  go_loop [6] (fun i => ∃ k : Nat, k ≤ s.size ∧ i = .int .i64 k ∧ ((dl s).drop k).all isDig = A) (fun i => s.size - (intOf i).toNat)
  case atStart => exact ⟨0, Nat.zero_le _, rfl, HA.out⟩
  case round =>
    obtain ⟨k, hk, rfl, hall⟩ := hrel
    by_cases hlt : k < s.size
    · rw [dl_drop s k hlt, List.all_cons] at hall
      have hc : isDig (s.get! k) = decide (48 ≤ ((s[k]).toNat : Int) ∧ ((s[k]).toNat : Int) ≤ 57) := by
        have : s.get! k = s[k] := by simpa using get_at s k hlt
        rw [this]; unfold isDig; rw [Bool.eq_iff_iff]; simp only [decide_eq_true_eq]; omega
      rw [hc] at hall
      have H := Lib.hid hall
      clear hall hc
      go_wp2_with fail
      · have hA1 : A = false := by rw [← H.out, decide_eq_false (by omega)]; rfl
        go_ret
        refine ⟨ret_bool ?_, rfl⟩
        rw [HD.out, hA1]; rfl
      · refine ⟨⟨k + 1, by omega, by go_num, ?_⟩, by simp [intOf]; omega⟩
        rw [← H.out, decide_eq_true (by omega)]; rfl
      · have hA1 : A = false := by rw [← H.out, decide_eq_false (by omega)]; rfl
        go_ret
        refine ⟨ret_bool ?_, rfl⟩
        rw [HD.out, hA1]; rfl
    · obtain rfl : k = s.size := by omega
      have hA1 : A = true := by rw [← hall, List.drop_of_length_le (by rw [dl_size]; omega)]; rfl
      have H := Lib.hid hA1
      clear hall hA1
      go_wp2_with fail
      go_ret
      refine ⟨ret_bool ?_, rfl⟩
      rw [HD.out, H.out, ← dl_empty]; simp

theorem fail_c (n : Int) (w : World) :
    Calls Tryd.prog 36 #[.int .i64 n] w fun e w' => e = .returned (.iface 64 (.pointer (some ⟨w.heap.size, 0, none⟩))) ∧ w' = w.alloc (.cells #[.int .i64 n] 68) := by
  go_enter Tryd.func36, Tryd.ntmps36
  go_wp2_with fail
  go_ret
  exact ⟨rfl, rfl⟩

/-- An error of that kind is returned; or nil, if it is 0. -/
def RetErr (n : Nat) (w : World) (e : Ending) (w' : World) : Prop := ∃ v, e = .returned v ∧ ErrAt w' v n ∧ Bel w w'
theorem retErr_some {n : Nat} {w w1 : World} {m : Int} {k : Nat} (hm : m = n) (hn : n ≠ 0) (hb : Bel w w1) (hk : k = w1.heap.size) {e : Ending} (he : e = .returned (.iface 64 (.pointer (some ⟨k, 0, none⟩)))) : RetErr n w e (w1.alloc (.cells #[.int .i64 m] 68)) :=
  ⟨_, he, .inr ⟨hn, _, rfl, by simp [hm, hk]⟩, hb.to_alloc _⟩
theorem retErr_nil {w w1 : World} (hb : Bel w w1) : RetErr 0 w (.returned .nilIface) w1 := ⟨_, rfl, .inl ⟨rfl, rfl⟩, hb⟩

def numV (d : ByteArray) (sc : Int) : Value := .agg #[.string d, .int .i64 sc]

set_option maxHeartbeats 1000000 in
theorem check_c (d : ByteArray) (hs : d.size ≤ maxLen) (sc : Int) (w : World) :
    Calls Tryd.prog 26 #[.agg #[.string d, .int .i64 sc]] w (RetErr (checkN (dl d) sc) w) := by
  have hdig := fun w1 => digits_c d hs w1
  unfold maxLen at hs
  obtain ⟨D, hD⟩ : ∃ D, digitsL (dl d) = D := ⟨_, rfl⟩
  rw [hD] at hdig
  have HG := Lib.hid hdig
  have hn : checkN (dl d) sc = if D = false then 17 else if 1000 < d.size then 19 else if sc < 0 ∨ 1000 < sc then 3 else 0 := by unfold checkN; rw [hD]; rfl
  rw [hn]
  clear hdig hD hn
  cases D
  · rw [if_pos rfl]
    go_enter Tryd.func26, Tryd.ntmps26
    go_wp2_with (first
      | (go_at_call 23; refine (HG.out _).mono ?_; rintro e w' ⟨rfl, rfl⟩)
      | (go_at_call 36; refine (fail_c _ _).mono ?_; rintro e w' ⟨rfl, rfl⟩))
    go_ret
    exact retErr_some (n := 17) rfl (by decide) (Bel.alloc _ _) (by simp) rfl
  · rw [if_neg (by simp)]
    by_cases hl : 1000 < d.size
    · rw [if_pos hl]
      have hl2 : (1000 : Int) < d.size := by omega
      go_enter Tryd.func26, Tryd.ntmps26
      go_wp2_with (first
        | (go_at_call 23; refine (HG.out _).mono ?_; rintro e w' ⟨rfl, rfl⟩)
        | (go_at_call 36; refine (fail_c _ _).mono ?_; rintro e w' ⟨rfl, rfl⟩))
      go_ret
      exact retErr_some (n := 19) rfl (by decide) (Bel.alloc _ _) (by simp) rfl
    · rw [if_neg hl]
      have hl2 : (d.size : Int) ≤ 1000 := by omega
      by_cases h3 : sc < 0 ∨ 1000 < sc
      · rw [if_pos h3]
        have H3 := Lib.hid h3
        clear h3
        rcases H3.out with h3 | h3
        all_goals
          go_enter Tryd.func26, Tryd.ntmps26
          go_wp2_with (first
            | (go_at_call 23; refine (HG.out _).mono ?_; rintro e w' ⟨rfl, rfl⟩)
            | (go_at_call 36; refine (fail_c _ _).mono ?_; rintro e w' ⟨rfl, rfl⟩))
          go_ret
          exact retErr_some (n := 3) rfl (by decide) (Bel.alloc _ _) (by simp) rfl
      · rw [if_neg h3]
        have h4 : 0 ≤ sc := by omega
        have h5 : sc ≤ 1000 := by omega
        clear h3
        go_enter Tryd.func26, Tryd.ntmps26
        go_wp2_with (first
          | (go_at_call 23; refine (HG.out _).mono ?_; rintro e w' ⟨rfl, rfl⟩)
          | (go_at_call 36; refine (fail_c _ _).mono ?_; rintro e w' ⟨rfl, rfl⟩))
        go_ret
        exact retErr_nil (Bel.alloc _ _)

/-- What is wrong with one of two. -/
def bothN (a : List UInt8) (s : Int) (b : List UInt8) (t : Int) : Nat := if checkN a s = 0 then checkN b t else checkN a s
set_option maxHeartbeats 1000000 in
theorem both_c (a : ByteArray) (ha : a.size ≤ maxLen) (s : Int) (b : ByteArray) (hb : b.size ≤ maxLen) (t : Int) (w : World) :
    Calls Tryd.prog 29 #[.agg #[.string a, .int .i64 s], .agg #[.string b, .int .i64 t]] w (RetErr (bothN (dl a) s (dl b) t) w) := by
  have h1 := fun w1 => check_c a ha s w1
  have h2 := fun w1 => check_c b hb t w1
  have hn : bothN (dl a) s (dl b) t = if checkN (dl a) s = 0 then checkN (dl b) t else checkN (dl a) s := rfl
  obtain ⟨n, hn1⟩ : ∃ n, checkN (dl a) s = n := ⟨_, rfl⟩
  obtain ⟨m, hm1⟩ : ∃ m, checkN (dl b) t = m := ⟨_, rfl⟩
  rw [hn1, hm1] at hn
  rw [hn1] at h1
  rw [hm1] at h2
  rw [hn]
  have H1 := Lib.hid h1
  have H2 := Lib.hid h2
  clear h1 h2 hn hn1 hm1
  by_cases h0 : n = 0
  · subst h0
    rw [if_pos rfl]
    go_enter Tryd.func29, Tryd.ntmps29
    go_wp2_with fail
    refine (H1.out _).mono ?_
    rintro e w1 ⟨v, rfl, ⟨_, rfl⟩ | ⟨h, _⟩, hb1⟩
    · obtain ⟨hc, hf⟩ := bcell hb1
      have hz : w.heap.size + 1 < w1.heap.size := by have := hb1.size; simp at this; omega
      go_wp2_with fail
      refine (H2.out _).mono ?_
      rintro e w2 ⟨v, rfl, hv, hb2⟩
      go_wp2_with fail
      go_ret
      exact ⟨_, rfl, hv, (((Bel.alloc w _).to_alloc _).trans hb1).trans hb2⟩
    · exact absurd rfl h
  · rw [if_neg h0]
    go_enter Tryd.func29, Tryd.ntmps29
    go_wp2_with fail
    refine (H1.out _).mono ?_
    rintro e w1 ⟨v, rfl, ⟨h, _⟩ | ⟨_, b, rfl, hc⟩, hb1⟩
    · exact absurd h h0
    · have HC := Lib.hid hc
      clear hc
      go_wp2_with fail
      go_ret
      exact ⟨_, rfl, .inr ⟨h0, _, rfl, HC.out⟩, (((Bel.alloc w _).to_alloc _).trans hb1)⟩
end Go.Proofs.YtdpmibkiihddjaaDoor
