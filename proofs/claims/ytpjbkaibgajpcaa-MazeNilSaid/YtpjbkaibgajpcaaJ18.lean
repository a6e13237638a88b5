/-
  graph's document: Add; where an edge stands.
-/
import Derived.Test.YtpjbkaibgajpcaaJ17
namespace Go.Proofs.Ytpjbkaibgajpcaa
open Go.RowKit

/-- is it the edge between a and b? -/
def isE (lo hi : Int) (e : Int × Int × Bool) : Bool := decide (e.1 = lo) && decide (e.2.1 = hi)

end Go.Proofs.Ytpjbkaibgajpcaa
