/-
  The walk of utf.Put.
-/
import Derived.Test.YtjnaikojoemkaaaDoorFC
import Derived.Test.YtjnaikojoemkaaaDoorUA
namespace Go.Proofs.YtjnaikojoemkaaaDoor
open Go.RowKit

theorem runeCells_put (c : Int) (h : fineC c = true) : Lib.runeCells c = u8s (putI c) := by
  have hf : c = 9 ∨ c = 10 ∨ c = 13 ∨ 32 ≤ c ∧ c ≤ 55295 ∨ 57344 ≤ c ∧ c ≤ 65533 ∨ 65536 ≤ c ∧ c ≤ 1114111 := of_decide_eq_true h
  unfold Lib.runeCells u8s
  congr 1
  unfold putI
  by_cases h1 : c < 128
  · rw [if_pos h1, Lib.encodeRuneZ_one (by omega) (by omega)]
  · by_cases h2 : c < 2048
    · rw [if_neg h1, if_pos h2, Lib.encodeRuneZ_two (by omega) (by omega)]
    · by_cases h3 : c < 65536
      · rw [if_neg h1, if_neg h2, if_pos h3, Lib.encodeRuneZ_three (by omega)]
      · rw [if_neg h1, if_neg h2, if_neg h3, Lib.encodeRuneZ_four (by omega) (by omega)]
theorem putI_length (c : Int) : 1 ≤ (putI c).length ∧ (putI c).length ≤ 4 := by
  unfold putI; split
  · simp
  · split
    · simp
    · split <;> simp

set_option maxHeartbeats 800000 in
theorem uput_bad (c : Int) (h : fineC c = false) (w : World) :
    Calls Tryd.prog 49 #[.int .i64 c] w fun e w' => e = .returned (.tuple #[.slice none 0 0, .int .i64 4]) ∧ w = w' := by
  have hf := fun w1 => fine_c c w1
  rw [h] at hf
  have HF := Lib.hid hf
  clear hf h
  go_enter Tryd.func49, Tryd.ntmps49
  go_wp2_with fail
  refine (HF.out _).mono ?_
  rintro e w1 ⟨rfl, rfl⟩
  go_wp2_with fail
  go_ret2
  exact ⟨rfl, rfl⟩

set_option maxHeartbeats 800000 in
theorem uput_fine (c : Int) (h : fineC c = true) (w : World) :
    Calls Tryd.prog 49 #[.int .i64 c] w fun e w' => ∃ v, e = .returned (.tuple #[v, .int .i64 0]) ∧ RowAt w' v (u8s (putI c)) ∧ Bel w w' := by
  have hb : c = 9 ∨ c = 10 ∨ c = 13 ∨ 32 ≤ c ∧ c ≤ 55295 ∨ 57344 ≤ c ∧ c ≤ 65533 ∨ 65536 ≤ c ∧ c ≤ 1114111 := of_decide_eq_true h
  have h0 : 0 ≤ c ∧ c ≤ 1114111 := by omega
  have hf := fun w1 => fine_c c w1
  have hap := Tryd.utf8_AppendRune_plain w.heap.size (.slice none 0 0) 0 [] c (by omega) (by omega) w (World.ownsRow_nil _ _ _ _) (by omega) (Nat.le_refl _)
  rw [runeCells_put c h] at hap
  rw [h] at hf
  obtain ⟨L, hL⟩ : ∃ L, u8s (putI c) = L := ⟨_, rfl⟩
  have hLl : 1 ≤ L.length := by rw [← hL]; simpa [u8s] using (putI_length c).1
  rw [hL] at hap ⊢
  have hw : IntKind.i32.wrap c = c := by rw [IntKind.wrap_i32]; omega
  have HF := Lib.hid hf
  have HAP := Lib.hid hap
  have HL := Lib.hid hLl
  clear hf h hb hap hL hLl
  go_enter Tryd.func49, Tryd.ntmps49
  go_wp2_with fail
  refine (HF.out _).mono ?_
  rintro e w1 ⟨rfl, rfl⟩
  go_wp2_with fail
  refine HAP.out.mono ?_
  rintro e w2 ⟨v, rfl, hown, o, hgr⟩
  have hbel : Bel w w2 := Below.grown (Bel.alloc w o) hgr (by simp) (fun k hk => by simp [Value.ownBlock] at hk)
  have hrow := own_row hown
  have hrow2 : RowAt w2 v L := by
    rcases hrow with ⟨_, h⟩ | h
    · rw [List.nil_append] at h
      have := HL.out; rw [h] at this; simp at this
    · simpa using h
  go_wp2_with fail
  go_ret2
  exact ⟨_, rfl, hrow2, hbel⟩
end Go.Proofs.YtjnaikojoemkaaaDoor
