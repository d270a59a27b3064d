/-
  The walks of the document's answer for utf: Fine, First, Next, Part, Put, low.
-/
import Derived.Test.YtfmhpeinikidfaaDoorC
namespace Go.Proofs.YtfmhpeinikidfaaDoor
open Go.RowKit

set_option maxHeartbeats 800000 in
theorem rfine_c (c : Int) (w : World) :
    Calls Tryd.prog 42 #[.int .i64 c] w fun e w' => e = .returned (.bool (fineC c)) ∧ w = w' := by
  go_enter Tryd.func42, Tryd.ntmps42
  go_wp2_with fail
  all_goals go_ret
  all_goals refine ⟨ret_bool (bool_ext ?_), rfl⟩
  all_goals go_light
  all_goals grind [fineC]

set_option maxHeartbeats 800000 in
theorem rfirst_c (c : Int) (w : World) :
    Calls Tryd.prog 29 #[.int .i64 c] w fun e w' => e = .returned (.bool (firstC c)) ∧ w = w' := by
  go_enter Tryd.func29, Tryd.ntmps29
  go_wp2_with (go_at_call 42; refine (rfine_c _ _).mono ?_; rintro e w' ⟨rfl, rfl⟩)
  all_goals go_ret
  all_goals refine ⟨ret_bool (bool_ext ?_), rfl⟩
  all_goals go_light
  all_goals grind [firstC]

set_option maxHeartbeats 400000 in
theorem rnext_c (c : Int) (w : World) :
    Calls Tryd.prog 37 #[.int .i64 c] w fun e w' => e = .returned (.bool (nextC c)) ∧ w = w' := by
  go_enter Tryd.func37, Tryd.ntmps37
  go_wp2_with (go_at_call 29; refine (rfirst_c _ _).mono ?_; rintro e w' ⟨rfl, rfl⟩)
  all_goals go_ret
  all_goals refine ⟨ret_bool (bool_ext ?_), rfl⟩
  all_goals go_light
  all_goals grind [nextC]

set_option maxHeartbeats 400000 in
theorem rpart_c (c : Int) (w : World) :
    Calls Tryd.prog 30 #[.int .i64 c] w fun e w' => e = .returned (.bool (partC c)) ∧ w = w' := by
  go_enter Tryd.func30, Tryd.ntmps30
  go_wp2_with (go_at_call 37; refine (rnext_c _ _).mono ?_; rintro e w' ⟨rfl, rfl⟩)
  all_goals go_ret
  all_goals refine ⟨ret_bool (bool_ext ?_), rfl⟩
  all_goals go_light
  all_goals grind [partC]

end Go.Proofs.YtfmhpeinikidfaaDoor
