/-
  The walks of the layer utf: what each function answers, and that it leaves memory as it was.
-/
import Derived.Test.YtaaedmipcffjoaaDoorProg
import Derived.Test.YtaaedmipcffjoaaDoorU
import Derived.Test.YtaaedmipcffjoaaDoorA
namespace Go.Proofs.YtaaedmipcffjoaaDoor
open Go.RowKit

set_option maxHeartbeats 400000 in
theorem validRune_c (c : Int) (w : World) :
    Calls Tryd.prog 89 #[.int .i32 c] w fun e w' => e = .returned (.bool (validR c)) ∧ w = w' := by
  go_enter Tryd.func89, Tryd.ntmps89
  go_wp2
  all_goals go_ret
  all_goals exact ⟨ret_bool (by simp [validR]; omega), rfl⟩

set_option maxHeartbeats 400000 in
theorem fine_c (c : Int) (w : World) :
    Calls Tryd.prog 64 #[.int .i64 c] w fun e w' => e = .returned (.bool (fineC c)) ∧ w = w' := by
  go_enter Tryd.func64, Tryd.ntmps64
  go_wp2_with (go_at_call 89; refine (validRune_c _ _).mono ?_; rintro e w' ⟨rfl, rfl⟩)
  all_goals go_ret
  all_goals refine ⟨ret_bool (bool_ext ?_), rfl⟩
  all_goals go_light
  all_goals grind [fineC, validR]

set_option maxHeartbeats 400000 in
theorem first_c (c : Int) (w : World) :
    Calls Tryd.prog 71 #[.int .i64 c] w fun e w' => e = .returned (.bool (firstC c)) ∧ w = w' := by
  go_enter Tryd.func71, Tryd.ntmps71
  go_wp2_with (go_at_call 64; refine (fine_c _ _).mono ?_; rintro e w' ⟨rfl, rfl⟩)
  all_goals go_ret
  all_goals refine ⟨ret_bool (bool_ext ?_), rfl⟩
  all_goals go_light
  all_goals grind [firstC]

set_option maxHeartbeats 400000 in
theorem next_c (c : Int) (w : World) :
    Calls Tryd.prog 72 #[.int .i64 c] w fun e w' => e = .returned (.bool (nextC c)) ∧ w = w' := by
  go_enter Tryd.func72, Tryd.ntmps72
  go_wp2_with (go_at_call 71; refine (first_c _ _).mono ?_; rintro e w' ⟨rfl, rfl⟩)
  all_goals go_ret
  all_goals refine ⟨ret_bool (bool_ext ?_), rfl⟩
  all_goals go_light
  all_goals grind [nextC]


end Go.Proofs.YtaaedmipcffjoaaDoor
