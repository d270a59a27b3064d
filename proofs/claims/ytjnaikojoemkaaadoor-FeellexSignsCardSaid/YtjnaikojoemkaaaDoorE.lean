/-
  The walks of names.Plain and names.Split.
-/
import Derived.Test.YtjnaikojoemkaaaDoorD
namespace Go.Proofs.YtjnaikojoemkaaaDoor
open Go.RowKit

theorem fine_of_first (c : Int) (h : firstC c = true) : fineC c = true := by
  unfold firstC at h; unfold fineC at *; simp only [decide_eq_true_eq] at *; omega
theorem fine_of_next (c : Int) (h : nextC c = true) : fineC c = true := by
  unfold nextC at h; rw [Bool.or_eq_true] at h
  rcases h with h | h
  · exact fine_of_first c h
  · unfold fineC; simp only [decide_eq_true_eq] at *; omega
theorem fine_of_part (c : Int) (h : partC c = true) : fineC c = true := by
  unfold partC at h; rw [Bool.or_eq_true] at h
  rcases h with h | h
  · exact fine_of_next c h
  · unfold fineC; simp only [decide_eq_true_eq] at *; omega

/-- A name's prefix and what stands behind it, the error's number. -/
def splitS (s : ByteArray) : ByteArray × ByteArray × Nat :=
  let t := Lib.cut s.data.toList [58]
  if t.2.2 = true ∧ plainS ⟨t.1.toArray⟩ = true ∧ plainS ⟨t.2.1.toArray⟩ = true then (⟨t.1.toArray⟩, ⟨t.2.1.toArray⟩, 0)
  else if t.2.2 = false ∧ plainS s = true then (⟨#[]⟩, s, 0)
  else (⟨#[]⟩, ⟨#[]⟩, 6)

theorem cut_sizes (s : ByteArray) : (⟨(Lib.cut s.data.toList [58]).1.toArray⟩ : ByteArray).size ≤ s.size ∧ (⟨(Lib.cut s.data.toList [58]).2.1.toArray⟩ : ByteArray).size ≤ s.size := by
  have hl : s.size = s.data.toList.length := rfl
  constructor
  · show (Lib.cut s.data.toList [58]).1.toArray.size ≤ _
    rw [hl]; unfold Lib.cut; simp; split <;> simp
    omega
  · show (Lib.cut s.data.toList [58]).2.1.toArray.size ≤ _
    rw [hl]; unfold Lib.cut; simp; split <;> simp

end Go.Proofs.YtjnaikojoemkaaaDoor
