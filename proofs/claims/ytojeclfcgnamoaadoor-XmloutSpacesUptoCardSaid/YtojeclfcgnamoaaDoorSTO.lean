/-
  The stable sort of no attributes.
-/
import Derived.Test.YtojeclfcgnamoaaDoorSTN
namespace Go.Proofs.YtojeclfcgnamoaaDoor
open Go.RowKit Go.Sort Go.Shelf Go.Lib

set_option maxRecDepth 100000 in
set_option maxHeartbeats 4000000 in
theorem insertion_nil (ao : Option Addr) (cap : Nat) (w : World) :
    Calls Tryd.prog 66 #[.slice ao 0 cap, .int .i64 0, .int .i64 0, .func (.func 32) #[] #[]] w fun e w' => e = .returned (.tuple #[]) ∧ w' = w := by
  go_enter Tryd.func66, Tryd.ntmps66
  go_wp2_with fail
  go_loopw [8] (fun x wr => x = .int .i64 1 ∧ wr = w) (fun x _ => 0)
  case atStart => exact ⟨by go_num, rfl⟩
  case round =>
    obtain ⟨rfl, rfl⟩ := hrel
    go_wp2_with fail
    go_end0
    exact ⟨rfl, rfl⟩
set_option maxRecDepth 100000 in
set_option maxHeartbeats 4000000 in
theorem stable_nil (ao : Option Addr) (cap : Nat) (w : World) :
    Calls Tryd.prog 54 #[.slice ao 0 cap, .int .i64 0, .func (.func 32) #[] #[]] w fun e w' => e = .returned (.tuple #[]) ∧ w' = w := by
  have HC := Lib.hid (insertion_nil ao cap w)
  go_enter Tryd.func54, Tryd.ntmps54
  go_wp2_with fail
  go_loopw [7, 8] (fun x y wr => x = .int .i64 0 ∧ y = .int .i64 20 ∧ wr = w) (fun x y _ => 0)
  case atStart => exact ⟨rfl, rfl, rfl⟩
  case round =>
    obtain ⟨rfl, rfl, rfl⟩ := hrel
    go_wp2_with fail
    refine HC.out.mono ?_
    rintro e2 w2 ⟨rfl, rfl⟩
    clear HC
    go_wp2_with fail
    go_loopw [6] (fun x wr => x = .int .i64 20 ∧ wr = w2) (fun x _ => 0)
    case atStart => exact ⟨rfl, rfl⟩
    case round =>
      obtain ⟨rfl, rfl⟩ := hrel
      go_wp2_with fail
      go_end0
      exact ⟨rfl, rfl⟩
set_option maxRecDepth 100000 in
set_option maxHeartbeats 4000000 in
theorem sortStable_nil (ao : Option Addr) (cap : Nat) (w : World) :
    Calls Tryd.prog 31 #[.slice ao 0 cap, .func (.func 32) #[] #[]] w fun e w' => e = .returned (.tuple #[]) ∧ w' = w := by
  have HC := Lib.hid (stable_nil ao cap w)
  go_enter Tryd.func31, Tryd.ntmps31
  go_wp2_with fail
  refine HC.out.mono ?_
  rintro e2 w2 ⟨rfl, rfl⟩
  clear HC
  go_wp2_with fail
  go_end0
  exact ⟨rfl, rfl⟩
/-- The attributes sorted where they lie, be there none. -/
theorem sortAtrs {w : World} {B : Nat} {v : Value} {al : List Atr} (h : w.ownsRow B 63 3 v al.length (al.flatMap encA)) (hB : B ≤ w.heap.size) (hn : al.length ≤ 1073741824) (hd : (al.map nmA).Nodup) :
    Calls Tryd.prog 31 #[v, .func (.func 32) #[] #[]] w fun e w' => e = .returned (.tuple #[]) ∧ Below B w w' ∧ AttrsV w' v (sortA al) := by
  by_cases h0 : al = []
  · subst h0
    obtain ⟨a, c, rfl, hc, _⟩ := own_wh h
    refine (sortStable_nil a c w).mono ?_
    rintro e2 w2 ⟨rfl, rfl⟩
    have e : sortA [] = [] := List.length_eq_zero_iff.1 (sortA_length [])
    exact ⟨rfl, Below.refl _ _, a, c, by rw [e], by rw [e]; exact Nat.zero_le _, .inl e⟩
  · exact sortAtrs_c h h0 hB hn hd
end Go.Proofs.YtojeclfcgnamoaaDoor
