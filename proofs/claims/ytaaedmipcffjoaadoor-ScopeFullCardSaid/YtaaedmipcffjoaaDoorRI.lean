/-
  The walk of names.Right.
-/
import Derived.Test.YtaaedmipcffjoaaDoorO
namespace Go.Proofs.YtaaedmipcffjoaaDoor
open Go.RowKit

set_option maxHeartbeats 400000 in
theorem right_c (s : ByteArray) (hs : s.size ≤ 4294967280) (w : World) (hE : Env w) :
    Calls Tryd.prog 35 #[.string s] w fun e w' => e = .returned (.bool (wordsS s).isSome) ∧ Bel w w' := by
  have hw := words_c s hs w hE
  obtain ⟨r, hr⟩ : ∃ r, wordsS s = r := ⟨_, rfl⟩
  rw [hr] at hw ⊢
  clear hr
  cases r
  · have HW := Lib.hid hw
    clear hw
    go_enter Tryd.func35, Tryd.ntmps35
    go_wp2_with fail
    refine HW.out.mono ?_
    rintro e w1 ⟨hb, rfl⟩
    go_wp2_with fail
    go_ret
    exact ⟨rfl, hb⟩
  · have HW := Lib.hid hw
    clear hw
    go_enter Tryd.func35, Tryd.ntmps35
    go_wp2_with fail
    refine HW.out.mono ?_
    rintro e w1 ⟨hb, v, rfl, _⟩
    go_wp2_with fail
    go_ret
    exact ⟨rfl, hb⟩
end Go.Proofs.YtaaedmipcffjoaaDoor
