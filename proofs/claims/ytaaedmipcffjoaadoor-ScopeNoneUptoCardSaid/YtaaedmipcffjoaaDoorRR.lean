/-
  The walk of tipstaveref02.Right.
-/
import Derived.Test.YtaaedmipcffjoaaDoorY
namespace Go.Proofs.YtaaedmipcffjoaaDoor
open Go.RowKit

set_option maxHeartbeats 400000 in
theorem rright_c (s : ByteArray) (hs : s.size ≤ 4294967200) (w : World) :
    Calls Tryd.prog 30 #[.string s] w fun e w' => e = .returned (.bool (wordsS s).isSome) ∧ Bel w w' := by
  have hw := rwords_c s hs w
  rw [words_same] at hw
  obtain ⟨r, hr⟩ : ∃ r, wordsS s = r := ⟨_, rfl⟩
  rw [hr] at hw ⊢
  clear hr
  cases r
  · have HW := Lib.hid hw
    clear hw
    go_enter Tryd.func30, Tryd.ntmps30
    go_wp2_with fail
    refine HW.out.mono ?_
    rintro e w1 ⟨hb, rfl⟩
    go_wp2_with fail
    go_ret
    exact ⟨rfl, hb⟩
  · have HW := Lib.hid hw
    clear hw
    go_enter Tryd.func30, Tryd.ntmps30
    go_wp2_with fail
    refine HW.out.mono ?_
    rintro e w1 ⟨hb, v, rfl, _⟩
    go_wp2_with fail
    go_ret
    exact ⟨rfl, hb⟩
end Go.Proofs.YtaaedmipcffjoaaDoor
