/-
  walk's document: Run, walked.
-/
import Derived.Test.YtpjbkaibgajpcaaGreatJ18
import Derived.Test.YtpjbkaibgajpcaaGreatJ10
import Derived.Deep.DeepCutAuto
namespace Go.Proofs.YtpjbkaibgajpcaaGreat
open Go.RowKit
set_option maxRecDepth 20000



end Go.Proofs.YtpjbkaibgajpcaaGreat
