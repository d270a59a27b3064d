/-
  The walks of the layer utf: what each function answers, and that it leaves memory as it was.
-/
import Derived.Test.YtjnaikojoemkaaaDoorProg
import Derived.Test.YtjnaikojoemkaaaDoorU
import Derived.Test.YtjnaikojoemkaaaDoorA
namespace Go.Proofs.YtjnaikojoemkaaaDoor
open Go.RowKit

set_option maxHeartbeats 400000 in
theorem validRune_c (c : Int) (w : World) :
    Calls Tryd.prog 37 #[.int .i32 c] w fun e w' => e = .returned (.bool (validR c)) ∧ w = w' := by
  go_enter Tryd.func37, Tryd.ntmps37
  go_wp2
  all_goals go_ret
  all_goals exact ⟨ret_bool (by simp [validR]; omega), rfl⟩

set_option maxHeartbeats 400000 in
theorem fine_c (c : Int) (w : World) :
    Calls Tryd.prog 24 #[.int .i64 c] w fun e w' => e = .returned (.bool (fineC c)) ∧ w = w' := by
  go_enter Tryd.func24, Tryd.ntmps24
  go_wp2_with (go_at_call 37; refine (validRune_c _ _).mono ?_; rintro e w' ⟨rfl, rfl⟩)
  all_goals go_ret
  all_goals refine ⟨ret_bool (bool_ext ?_), rfl⟩
  all_goals go_light
  all_goals grind [fineC, validR]

set_option maxHeartbeats 400000 in
theorem first_c (c : Int) (w : World) :
    Calls Tryd.prog 30 #[.int .i64 c] w fun e w' => e = .returned (.bool (firstC c)) ∧ w = w' := by
  go_enter Tryd.func30, Tryd.ntmps30
  go_wp2_with (go_at_call 24; refine (fine_c _ _).mono ?_; rintro e w' ⟨rfl, rfl⟩)
  all_goals go_ret
  all_goals refine ⟨ret_bool (bool_ext ?_), rfl⟩
  all_goals go_light
  all_goals grind [firstC]

set_option maxHeartbeats 400000 in
theorem next_c (c : Int) (w : World) :
    Calls Tryd.prog 31 #[.int .i64 c] w fun e w' => e = .returned (.bool (nextC c)) ∧ w = w' := by
  go_enter Tryd.func31, Tryd.ntmps31
  go_wp2_with (go_at_call 30; refine (first_c _ _).mono ?_; rintro e w' ⟨rfl, rfl⟩)
  all_goals go_ret
  all_goals refine ⟨ret_bool (bool_ext ?_), rfl⟩
  all_goals go_light
  all_goals grind [nextC]


end Go.Proofs.YtjnaikojoemkaaaDoor
