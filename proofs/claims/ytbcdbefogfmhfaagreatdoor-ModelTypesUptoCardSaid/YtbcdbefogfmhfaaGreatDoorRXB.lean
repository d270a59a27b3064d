/-
  expr: the walks of the document's Within, Scoped, Free, Same.
  expr: the walks of the document's Free, Same.
-/
import Derived.Test.YtbcdbefogfmhfaaGreatDoorEXB
import Derived.Test.YtbcdbefogfmhfaaGreatDoorNUB
import Derived.Deep.DeepCutAuto
import Derived.Test.YtbcdbefogfmhfaaGreatDoorEXD
import Derived.Test.YtbcdbefogfmhfaaGreatDoorUCA
import Derived.Test.YtbcdbefogfmhfaaGreatDoorSPA
import Derived.Test.YtbcdbefogfmhfaaGreatDoorSPR
import Derived.Test.YtbcdbefogfmhfaaGreatDoorEXC
import Derived.Deep.CutBlock
namespace Go.Proofs.YtbcdbefogfmhfaaGreatDoor
open Go.RowKit
theorem uniqS_len (l : List ByteArray) : (uniqS l).length ≤ l.length := len_le_of_mem l (uniqS l) (srt_uniqS l).nodup fun x hx => by rwa [mem_uniqS] at hx
theorem with_fine {A F : List ByteArray} (hr : ∀ x ∈ F, rightS x = true) (hn : A.length + F.length ≤ 4096) : withS (uniqS A) (uniqS F) = (some (uniqS (A ++ F)), 0) := by
  unfold withS
  have h1 : (uniqS F).all rightS = true := List.all_eq_true.2 fun x hx => hr x (by rwa [mem_uniqS] at hx)
  have h2 := uniqS_len (A ++ F)
  rw [List.length_append] at h2
  rw [if_neg (by rw [h1]; simp), addS_uniq, if_neg (by omega)]
end Go.Proofs.YtbcdbefogfmhfaaGreatDoor
