/-
  The walks of the layer utf: what each function answers, and that it leaves memory as it was.
-/
import Derived.Test.YtfmhpeinikidfaaDoorProg
import Derived.Test.YtfmhpeinikidfaaDoorU
import Derived.Test.YtfmhpeinikidfaaDoorA
namespace Go.Proofs.YtfmhpeinikidfaaDoor
open Go.RowKit

set_option maxHeartbeats 400000 in
theorem validRune_c (c : Int) (w : World) :
    Calls Tryd.prog 54 #[.int .i32 c] w fun e w' => e = .returned (.bool (validR c)) ∧ w = w' := by
  go_enter Tryd.func54, Tryd.ntmps54
  go_wp2
  all_goals go_ret
  all_goals exact ⟨ret_bool (by simp [validR]; omega), rfl⟩

set_option maxHeartbeats 400000 in
theorem fine_c (c : Int) (w : World) :
    Calls Tryd.prog 45 #[.int .i64 c] w fun e w' => e = .returned (.bool (fineC c)) ∧ w = w' := by
  go_enter Tryd.func45, Tryd.ntmps45
  go_wp2_with (go_at_call 54; refine (validRune_c _ _).mono ?_; rintro e w' ⟨rfl, rfl⟩)
  all_goals go_ret
  all_goals refine ⟨ret_bool (bool_ext ?_), rfl⟩
  all_goals go_light
  all_goals grind [fineC, validR]

set_option maxHeartbeats 400000 in
theorem first_c (c : Int) (w : World) :
    Calls Tryd.prog 35 #[.int .i64 c] w fun e w' => e = .returned (.bool (firstC c)) ∧ w = w' := by
  go_enter Tryd.func35, Tryd.ntmps35
  go_wp2_with (go_at_call 45; refine (fine_c _ _).mono ?_; rintro e w' ⟨rfl, rfl⟩)
  all_goals go_ret
  all_goals refine ⟨ret_bool (bool_ext ?_), rfl⟩
  all_goals go_light
  all_goals grind [firstC]

set_option maxHeartbeats 400000 in
theorem next_c (c : Int) (w : World) :
    Calls Tryd.prog 36 #[.int .i64 c] w fun e w' => e = .returned (.bool (nextC c)) ∧ w = w' := by
  go_enter Tryd.func36, Tryd.ntmps36
  go_wp2_with (go_at_call 35; refine (first_c _ _).mono ?_; rintro e w' ⟨rfl, rfl⟩)
  all_goals go_ret
  all_goals refine ⟨ret_bool (bool_ext ?_), rfl⟩
  all_goals go_light
  all_goals grind [nextC]

set_option maxHeartbeats 400000 in
theorem part_c (c : Int) (w : World) :
    Calls Tryd.prog 27 #[.int .i64 c] w fun e w' => e = .returned (.bool (partC c)) ∧ w = w' := by
  go_enter Tryd.func27, Tryd.ntmps27
  go_wp2_with (go_at_call 36; refine (next_c _ _).mono ?_; rintro e w' ⟨rfl, rfl⟩)
  all_goals go_ret
  all_goals refine ⟨ret_bool (bool_ext ?_), rfl⟩
  all_goals go_light
  all_goals grind [partC]

set_option maxHeartbeats 400000 in
theorem start_c (c : Int) (w : World) :
    Calls Tryd.prog 26 #[.int .i64 c] w fun e w' => e = .returned (.bool (firstC c)) ∧ w = w' := by
  go_enter Tryd.func26, Tryd.ntmps26
  go_wp2_with (go_at_call 35; refine (first_c _ _).mono ?_; rintro e w' ⟨rfl, rfl⟩)
  go_ret
  exact ⟨rfl, rfl⟩
end Go.Proofs.YtfmhpeinikidfaaDoor
