/-
  The walk of the document's answer for names: Words.
-/
import Derived.Test.YtjnaikojoemkaaaDoorW
import Derived.RegionTactic
import Derived.IntWalk
import Derived.ChangeAlike
import Derived.Laws.OwnMore
namespace Go.Proofs.YtjnaikojoemkaaaDoor
open Go.RowKit

/-- The parts between blanks. -/
def cutL : List UInt8 → ByteArray → List ByteArray
  | [], x => [x]
  | c :: l, x => if c = 32 then x :: cutL l ⟨#[]⟩ else cutL l (x ++ ⟨#[c]⟩)
def rpartsS (s : ByteArray) : List ByteArray := cutL s.data.toList ⟨#[]⟩
def rwordsS (s : ByteArray) : Option (List ByteArray) := if (rpartsS s).all rwordS then some (rpartsS s) else none
def RetWT (R : List ByteArray) (T : Bool) (w : World) (e : Ending) (w' : World) : Prop := RetW (if T = true then some R else none) w e w'

theorem info_string : (Tryd.prog.info? 9).map (fun i => (i.zero, i.size, i.bytes)) = some (some (.string ⟨#[]⟩), 1, 16) := by kernel_rfl
theorem strsV_set (L : List ByteArray) (x y : ByteArray) : (strsV (L ++ [x])).set L.length (.string y) = strsV (L ++ [y]) := by
  unfold strsV
  rw [← List.map_set]
  simp
theorem byte_drop (s : ByteArray) (k : Nat) (h : k < s.size) : s.data.toList.drop k = s.get! k :: s.data.toList.drop (k + 1) := by
  have hl : k < s.data.toList.length := h
  rw [List.drop_eq_getElem_cons hl, get_bang s k h]
  simp
theorem byte_extract (s : ByteArray) (k : Nat) (h : k < s.size) : s.extract k (k + 1) = ⟨#[s.get! k]⟩ := by
  apply ByteArray.ext
  apply Array.ext'
  have hl : k < s.data.toList.length := h
  simp only [ByteArray.data_extract, Array.toList_extract, List.extract_eq_take_drop]
  rw [byte_drop s k h]
  simp

theorem cutL_size : ∀ (l : List UInt8) (x y : ByteArray), y ∈ cutL l x → y.size ≤ x.size + l.length
  | [], x, y, h => by simp [cutL] at h; subst h; simp
  | c :: l, x, y, h => by
    unfold cutL at h
    split at h
    · rcases List.mem_cons.1 h with rfl | h
      · simp
      · have := cutL_size l _ y h
        have h0 : (⟨#[]⟩ : ByteArray).size = 0 := rfl
        rw [List.length_cons]; omega
    · have := cutL_size l _ y h
      rw [ByteArray.size_append] at this
      have h0 : (⟨#[c]⟩ : ByteArray).size = 1 := rfl
      rw [List.length_cons]; omega
theorem rparts_size (s x : ByteArray) (h : x ∈ rpartsS s) : x.size ≤ s.size := by
  have := cutL_size _ _ x h
  have h0 : (⟨#[]⟩ : ByteArray).size = 0 := rfl
  have h1 : s.size = s.data.toList.length := rfl
  omega

end Go.Proofs.YtjnaikojoemkaaaDoor
