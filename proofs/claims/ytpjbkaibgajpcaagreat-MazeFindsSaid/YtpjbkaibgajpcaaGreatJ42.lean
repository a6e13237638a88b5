/-
  maze's laws: both mazes are the same.
-/
import Derived.Test.YtpjbkaibgajpcaaGreatJ37
import Derived.Test.YtpjbkaibgajpcaaGreatJ40
import Derived.Test.YtpjbkaibgajpcaaGreatJ41
import Derived.Test.YtpjbkaibgajpcaaGreatJ32
namespace Go.Proofs.YtpjbkaibgajpcaaGreat
open Go.RowKit Go.ChangeMaps
set_option maxRecDepth 20000

end Go.Proofs.YtpjbkaibgajpcaaGreat
