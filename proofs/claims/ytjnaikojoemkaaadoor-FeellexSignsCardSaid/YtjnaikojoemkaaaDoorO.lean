/-
  The walks of slices.IndexFunc and ContainsFunc at strings, names.Words, names.Right.
-/
import Derived.Test.YtjnaikojoemkaaaDoorN
import Derived.Test.YtjnaikojoemkaaaDoorG
import Derived.Test.YtjnaikojoemkaaaDoorShelf
namespace Go.Proofs.YtjnaikojoemkaaaDoor
open Go.RowKit

def strsV (ss : List ByteArray) : List Value := ss.map Value.string
theorem strsV_length (ss : List ByteArray) : (strsV ss).length = ss.length := by simp [strsV]

/-- The place of the first one; -1: there is none. -/
def idxF (p : ByteArray → Bool) : Nat → List ByteArray → Int
  | _, [] => -1
  | k, x :: l => if p x = true then k else idxF p (k + 1) l
theorem idxF_any (p : ByteArray → Bool) : ∀ (l : List ByteArray) (k : Nat), decide (0 ≤ idxF p k l) = l.any p
  | [], _ => rfl
  | x :: l, k => by
    unfold idxF
    by_cases h : p x = true
    · rw [if_pos h]; simp [h]
    · rw [if_neg h, idxF_any p l (k + 1)]; simp [h]

/-- A function value that answers a bool of a text, whatever it lays. -/
structure AsksS (h : Nat) (r : ByteArray → Bool) (ok : ByteArray → Prop) : Prop where
  enters : ∀ args w, (callFunc h args).run Tryd.prog w = .ok (.enter h args) w
  calls : ∀ s w, ok s → Env w → Calls Tryd.prog h #[.string s] w fun e w' => e = .returned (.bool (r s)) ∧ Bel w w'


/-- A name's words: its parts between blanks, each a word; none: it is no name. -/
def partsS (s : ByteArray) : List ByteArray := Lib.splitB ⟨#[32]⟩ 0 (Lib.countB s ⟨#[32]⟩) s
def wordsS (s : ByteArray) : Option (List ByteArray) := if (partsS s).all wordS then some (partsS s) else none
theorem parts_length (s : ByteArray) : (partsS s).length = Lib.countB s ⟨#[32]⟩ + 1 := Lib.splitB_all _ (by decide) _ _ _ rfl
theorem splitB_size (sep : ByteArray) : ∀ (k : Nat) (s x : ByteArray), x ∈ Lib.splitB sep 0 k s → x.size ≤ s.size
  | 0, s, x, h => by rw [Lib.splitB_zero] at h; simp at h; subst h; exact Nat.le_refl _
  | k + 1, s, x, h => by
    rcases Lib.indexB_cases s sep with hix | ⟨i, hix, _⟩
    · rw [Lib.splitB_miss _ _ _ _ hix] at h; simp at h; subst h; exact Nat.le_refl _
    · rw [Lib.splitB_hit _ _ _ _ i hix] at h
      rcases List.mem_cons.1 h with rfl | h
      · simp; omega
      · have := splitB_size sep k _ x h
        simp at this; omega
theorem parts_size (s x : ByteArray) (h : x ∈ partsS s) : x.size ≤ s.size := splitB_size _ _ s x h
theorem count_le (s : ByteArray) : Lib.countB s ⟨#[32]⟩ ≤ s.size := Lib.countB_le _ (by decide) _ _ (Nat.le_refl _)

/-- What Words answers. -/
def RetW (r : Option (List ByteArray)) (w : World) (e : Ending) (w' : World) : Prop :=
  Bel w w' ∧ match r with
  | none => e = .returned (.tuple #[.slice none 0 0, .bool false])
  | some l => ∃ v, e = .returned (.tuple #[v, .bool true]) ∧ RowAt w' v (strsV l)

end Go.Proofs.YtjnaikojoemkaaaDoor
