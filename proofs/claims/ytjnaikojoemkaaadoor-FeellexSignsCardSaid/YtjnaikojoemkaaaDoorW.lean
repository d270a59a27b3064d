/-
  The walks of the document's answer for names: All, Keyword, Word.
-/
import Derived.Test.YtjnaikojoemkaaaDoorK
import Derived.Test.YtjnaikojoemkaaaDoorO
namespace Go.Proofs.YtjnaikojoemkaaaDoor
open Go.RowKit

def KS : List ByteArray := kwL.map kwB
theorem isKw_any (s : ByteArray) : isKw s = KS.any fun x => x.toList == s.toList := by
  unfold isKw KS
  rw [List.any_map]
  congr 1
  funext l
  show (l == s.data.toList) = ((kwB l).toList == s.toList)
  rw [Lib.toList_data, Lib.toList_data]
  rfl

/-- Is it a word that is no keyword? By the document. -/
def rwordS (s : ByteArray) : Bool := charsB firstC nextC s && !isKw s

end Go.Proofs.YtjnaikojoemkaaaDoor
