/-
  best's document: one is added, walked.
-/
import Derived.Test.YtpjbkaibgajpcaaJ14
namespace Go.Proofs.Ytpjbkaibgajpcaa
open Go.RowKit

end Go.Proofs.Ytpjbkaibgajpcaa
