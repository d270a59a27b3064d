/-
  feellex: the document's answer: digit, number, hex.
-/
import Derived.Test.YtjnaikojoemkaaaDoorFP
namespace Go.Proofs.YtjnaikojoemkaaaDoor
open Go.RowKit

theorem dg_all : ((List.range 256).all fun i => dgC i.toUInt8 == decide (48 ≤ i ∧ i ≤ 57)) = true := by decide +kernel
theorem dgC_iff (c : UInt8) : dgC c = decide (48 ≤ (c.toNat : Int) ∧ (c.toNat : Int) ≤ 57) := by
  have h1 := List.all_eq_true.1 dg_all c.toNat (List.mem_range.2 c.toNat_lt)
  rw [show c.toNat.toUInt8 = c from by simp] at h1
  rw [beq_iff_eq.1 h1, decide_eq_decide]
  omega
/-- Four hexadecimal digits' number at a place; -1: they are none. -/
def hexI (s : ByteArray) (i : Nat) : Int := if 4 ≤ (s.data.toList.drop i).length ∧ ((s.data.toList.drop i).take 4).all hexC = true then hexN ((s.data.toList.drop i).take 4) else -1
theorem hexI_not (s : ByteArray) (i j : Nat) (hj : j < 4) (h : s.size ≤ i + j ∨ ∃ c, (s.data.toList.drop i)[j]? = some c ∧ hexC c = false) : hexI s i = -1 := by
  unfold hexI
  rw [if_neg]
  intro h2
  rcases h with h | ⟨c, h, hc⟩
  · have := h2.1
    simp at this
    have : s.data.toList.length = s.size := rfl
    omega
  · have := List.all_eq_true.1 h2.2 c (List.mem_of_getElem? (i := j) (by rw [List.getElem?_take_of_lt hj]; exact h))
    rw [hc] at this
    cases this
theorem hexV_int (c : UInt8) (h : hexC c = true) : ((hexV c : Nat) : Int) = if (c.toNat : Int) ≤ 57 then (c.toNat : Int) - 48 else if 97 ≤ (c.toNat : Int) then (c.toNat : Int) - 87 else (c.toNat : Int) - 55 := by
  unfold hexC at h
  have h := of_decide_eq_true h
  unfold hexV
  split <;> split <;> (try split) <;> (try split) <;> omega

end Go.Proofs.YtjnaikojoemkaaaDoor
