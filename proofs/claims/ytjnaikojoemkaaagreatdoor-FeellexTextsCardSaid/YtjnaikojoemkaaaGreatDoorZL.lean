/-
  Tokens as arguments.
-/
import Derived.Test.YtjnaikojoemkaaaGreatDoorZF
import Derived.Test.YtjnaikojoemkaaaGreatDoorMI
import Derived.Lib.SmallJoins
import Derived.Deep.Slices
namespace Go.Proofs.YtjnaikojoemkaaaGreatDoor
open Go.ChangeShapes Go.WideShapes Go.ChangeAt Go.RowKit Go.Shelf Go.Lib Go.Joins Go.Deep

section
variable {H : Type} {enc : TypeId × Value → H} {w : World} {base : Nat} {spare : Nat → Bool} {held : Bool}
set_option maxRecDepth 100000 in
/-- A token that came in. -/
theorem open_lex {r : Reach} {b0 : Nat} {v : Value} {d : DataW H} {p : List MemPlace} (hv : Value.okWide Tryz.prog w r b0 32 v) (h : DataW.Trod enc Tryz.prog w base spare held 32 v d p) :
    ∃ (k a : Int) (s : ByteArray), v = .agg #[.int .i64 k, .int .i64 a, .string s] ∧ d = .agg [.lit (.int .i64 k), .lit (.int .i64 a), .lit (.string s.data.toList)] ∧ p = [] ∧ s.size ≤ maxLen := by
  obtain ⟨c0, c1, c2, y0, y1, y2, m, rfl, rfl, rfl, hy0, hy1, hy2⟩ := open_agg3 Tryz.underlying32 (by kernel_rfl) (by kernel_rfl) hv h
  obtain ⟨k, e0, rfl, _⟩ := DataW.trod_int Tryz.underlying3 hy0
  obtain ⟨a, e1, rfl, _⟩ := DataW.trod_int Tryz.underlying3 hy1
  obtain ⟨s, e2, rfl, ws⟩ := DataW.trod_string Tryz.underlying9 hy2
  simp at e0 e1 e2
  subst e0 e1 e2
  exact ⟨k, a, s, rfl, rfl, rfl, ws⟩
end
end Go.Proofs.YtjnaikojoemkaaaGreatDoor
