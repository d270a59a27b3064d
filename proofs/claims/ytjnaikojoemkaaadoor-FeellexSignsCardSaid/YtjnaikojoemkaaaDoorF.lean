/-
  The walks of the document's answer for utf: Fine, First, Next, Part, Put, low.
-/
import Derived.Test.YtjnaikojoemkaaaDoorC
namespace Go.Proofs.YtjnaikojoemkaaaDoor
open Go.RowKit

end Go.Proofs.YtjnaikojoemkaaaDoor
