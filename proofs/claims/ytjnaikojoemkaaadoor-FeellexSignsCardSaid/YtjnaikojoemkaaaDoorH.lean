/-
  The walk of the document's answer for utf: Rune: by how many bytes the first one announces.
-/
import Derived.Test.YtjnaikojoemkaaaDoorF
import Derived.Test.YtjnaikojoemkaaaDoorG
namespace Go.Proofs.YtjnaikojoemkaaaDoor
open Go.RowKit

def plen (c : Int) : Nat := (putI c).length
def RetII (a b : Int) (w : World) (e : Ending) (w' : World) : Prop := e = .returned (.tuple #[.int .i64 a, .int .i64 b]) ∧ Bel w w'
def RetLen (n : Nat) (w : World) (e : Ending) (w' : World) : Prop := ∃ a cap, e = .returned (.slice (some a) n cap) ∧ Bel w w'
theorem fine_bounds {c : Int} (h : fineC c = true) : 0 ≤ c ∧ c ≤ 1114111 := by
  unfold fineC at h; simp only [decide_eq_true_eq] at h; omega

/-- What Rune answers where k bytes are announced, the first one tells t, the others L. -/
def rrS (k : Nat) (t L : Int) : Int × Int := if L < 0 ∨ fineC (t + L) = false ∨ plen (t + L) ≠ k then (0, 0) else (t + L, k)

end Go.Proofs.YtjnaikojoemkaaaDoor
