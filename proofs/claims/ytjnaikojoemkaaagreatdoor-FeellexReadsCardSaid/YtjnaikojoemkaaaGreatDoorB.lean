/-
  The walks of the layer utf: what each function answers, and that it leaves memory as it was.
-/
import Derived.Test.YtjnaikojoemkaaaGreatDoorProg
import Derived.Test.YtjnaikojoemkaaaGreatDoorU
import Derived.Test.YtjnaikojoemkaaaGreatDoorA
namespace Go.Proofs.YtjnaikojoemkaaaGreatDoor
open Go.RowKit

set_option maxHeartbeats 400000 in
theorem validRune_c (c : Int) (w : World) :
    Calls Tryz.prog 55 #[.int .i32 c] w fun e w' => e = .returned (.bool (validR c)) ∧ w = w' := by
  go_enter Tryz.func55, Tryz.ntmps55
  go_wp2
  all_goals go_ret
  all_goals exact ⟨ret_bool (by simp [validR]; omega), rfl⟩

set_option maxHeartbeats 400000 in
theorem fine_c (c : Int) (w : World) :
    Calls Tryz.prog 34 #[.int .i64 c] w fun e w' => e = .returned (.bool (fineC c)) ∧ w = w' := by
  go_enter Tryz.func34, Tryz.ntmps34
  go_wp2_with (go_at_call 55; refine (validRune_c _ _).mono ?_; rintro e w' ⟨rfl, rfl⟩)
  all_goals go_ret
  all_goals refine ⟨ret_bool (bool_ext ?_), rfl⟩
  all_goals go_light
  all_goals grind [fineC, validR]

set_option maxHeartbeats 400000 in
theorem first_c (c : Int) (w : World) :
    Calls Tryz.prog 45 #[.int .i64 c] w fun e w' => e = .returned (.bool (firstC c)) ∧ w = w' := by
  go_enter Tryz.func45, Tryz.ntmps45
  go_wp2_with (go_at_call 34; refine (fine_c _ _).mono ?_; rintro e w' ⟨rfl, rfl⟩)
  all_goals go_ret
  all_goals refine ⟨ret_bool (bool_ext ?_), rfl⟩
  all_goals go_light
  all_goals grind [firstC]

set_option maxHeartbeats 400000 in
theorem next_c (c : Int) (w : World) :
    Calls Tryz.prog 46 #[.int .i64 c] w fun e w' => e = .returned (.bool (nextC c)) ∧ w = w' := by
  go_enter Tryz.func46, Tryz.ntmps46
  go_wp2_with (go_at_call 45; refine (first_c _ _).mono ?_; rintro e w' ⟨rfl, rfl⟩)
  all_goals go_ret
  all_goals refine ⟨ret_bool (bool_ext ?_), rfl⟩
  all_goals go_light
  all_goals grind [nextC]


end Go.Proofs.YtjnaikojoemkaaaGreatDoor
