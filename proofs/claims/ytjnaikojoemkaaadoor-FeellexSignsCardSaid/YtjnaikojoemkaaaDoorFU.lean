/-
  feellex: the walk of the document's Lex.
-/
import Derived.Test.YtjnaikojoemkaaaDoorFT
import Derived.Test.YtjnaikojoemkaaaDoorBK
namespace Go.Proofs.YtjnaikojoemkaaaDoor
open Go.RowKit

theorem tail_head (s : ByteArray) (i n : Nat) (_h : i + n ≤ s.size) : (s.extract i s.size).extract 0 n = s.extract i (i + n) := by
  apply ByteArray.ext; apply Array.ext'
  have h1 := extract_piece (s.extract i s.size) 0 n
  rw [Nat.zero_add] at h1
  rw [h1, extract_piece, tail_list, List.drop_zero]
theorem get_zero (s : ByteArray) (i : Nat) (h : i < s.size) : (s.extract i s.size).get! 0 = s.get! i := by rw [get_tail s i 0 (by omega), Nat.add_zero]

theorem cells3_at (w : World) (n : Nat) (hn : w.heap.size = n) (a b c : Value) (t : TypeId) : ∀ j u, [a, b, c][j]? = some u → (w.alloc (.cells #[a, b, c] t)).cell? ((⟨n, 0, none⟩ : Addr).add j) = some u := by
  subst hn
  exact cells3_new0 w a b c t
theorem sign_pre (x : ByteArray) : signS x = x.extract 0 (signS x).size := by
  have : ∀ l : List (List UInt8), (signIn x l).isPrefixOf x.data.toList = true := by
    intro l
    induction l with
    | nil => rfl
    | cons y l ih =>
      unfold signIn
      split
      · rename_i h; exact h
      · exact ih
  have h1 := List.isPrefixOf_iff_prefix.1 (this signsL)
  apply ByteArray.ext; apply Array.ext'
  have h2 := extract_piece x 0 (signS x).size
  rw [Nat.zero_add] at h2
  rw [h2, List.drop_zero]
  exact List.prefix_iff_eq_take.1 h1

end Go.Proofs.YtjnaikojoemkaaaDoor
