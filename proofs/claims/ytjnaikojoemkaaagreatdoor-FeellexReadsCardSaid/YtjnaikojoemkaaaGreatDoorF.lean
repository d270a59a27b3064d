/-
  The walks of the document's answer for utf: Fine, First, Next, Part, Put, low.
-/
import Derived.Test.YtjnaikojoemkaaaGreatDoorC
namespace Go.Proofs.YtjnaikojoemkaaaGreatDoor
open Go.RowKit

set_option maxHeartbeats 800000 in
theorem rfine_c (c : Int) (w : World) :
    Calls Tryz.prog 42 #[.int .i64 c] w fun e w' => e = .returned (.bool (fineC c)) ∧ w = w' := by
  go_enter Tryz.func42, Tryz.ntmps42
  go_wp2_with fail
  all_goals go_ret
  all_goals refine ⟨ret_bool (bool_ext ?_), rfl⟩
  all_goals go_light
  all_goals grind [fineC]

set_option maxHeartbeats 800000 in
theorem rfirst_c (c : Int) (w : World) :
    Calls Tryz.prog 39 #[.int .i64 c] w fun e w' => e = .returned (.bool (firstC c)) ∧ w = w' := by
  go_enter Tryz.func39, Tryz.ntmps39
  go_wp2_with (go_at_call 42; refine (rfine_c _ _).mono ?_; rintro e w' ⟨rfl, rfl⟩)
  all_goals go_ret
  all_goals refine ⟨ret_bool (bool_ext ?_), rfl⟩
  all_goals go_light
  all_goals grind [firstC]

set_option maxHeartbeats 400000 in
theorem rnext_c (c : Int) (w : World) :
    Calls Tryz.prog 38 #[.int .i64 c] w fun e w' => e = .returned (.bool (nextC c)) ∧ w = w' := by
  go_enter Tryz.func38, Tryz.ntmps38
  go_wp2_with (go_at_call 39; refine (rfirst_c _ _).mono ?_; rintro e w' ⟨rfl, rfl⟩)
  all_goals go_ret
  all_goals refine ⟨ret_bool (bool_ext ?_), rfl⟩
  all_goals go_light
  all_goals grind [nextC]


end Go.Proofs.YtjnaikojoemkaaaGreatDoor
