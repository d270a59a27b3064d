/-
  The walks of the document's answer for utf: Fine, First, Next, Part, Put, low.
-/
import Derived.Test.YtaaedmipcffjoaaDoorC
namespace Go.Proofs.YtaaedmipcffjoaaDoor
open Go.RowKit

set_option maxHeartbeats 800000 in
theorem rfine_c (c : Int) (w : World) :
    Calls Tryd.prog 86 #[.int .i64 c] w fun e w' => e = .returned (.bool (fineC c)) ∧ w = w' := by
  go_enter Tryd.func86, Tryd.ntmps86
  go_wp2_with fail
  all_goals go_ret
  all_goals refine ⟨ret_bool (bool_ext ?_), rfl⟩
  all_goals go_light
  all_goals grind [fineC]

set_option maxHeartbeats 800000 in
theorem rfirst_c (c : Int) (w : World) :
    Calls Tryd.prog 60 #[.int .i64 c] w fun e w' => e = .returned (.bool (firstC c)) ∧ w = w' := by
  go_enter Tryd.func60, Tryd.ntmps60
  go_wp2_with (go_at_call 86; refine (rfine_c _ _).mono ?_; rintro e w' ⟨rfl, rfl⟩)
  all_goals go_ret
  all_goals refine ⟨ret_bool (bool_ext ?_), rfl⟩
  all_goals go_light
  all_goals grind [firstC]

set_option maxHeartbeats 400000 in
theorem rnext_c (c : Int) (w : World) :
    Calls Tryd.prog 62 #[.int .i64 c] w fun e w' => e = .returned (.bool (nextC c)) ∧ w = w' := by
  go_enter Tryd.func62, Tryd.ntmps62
  go_wp2_with (go_at_call 60; refine (rfirst_c _ _).mono ?_; rintro e w' ⟨rfl, rfl⟩)
  all_goals go_ret
  all_goals refine ⟨ret_bool (bool_ext ?_), rfl⟩
  all_goals go_light
  all_goals grind [nextC]


end Go.Proofs.YtaaedmipcffjoaaDoor
