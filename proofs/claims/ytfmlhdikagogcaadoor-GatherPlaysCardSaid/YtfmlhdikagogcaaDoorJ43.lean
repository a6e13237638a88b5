/-
  note: which fields a Query and a Seen have.
-/
import Derived.Test.YtfmlhdikagogcaaDoorJ42
namespace Go.Proofs.YtfmlhdikagogcaaDoor
open Go.RowKit
set_option maxRecDepth 20000

set_option maxRecDepth 100000 in
theorem fits8 : ∀ b0 b1 b2 b3 b4 b5 b6 b7 b8 b9 b10 b11 b12 b13 b14 : Bool, (bits .andNot .i64 (heldN [b0, b1, b2, b3, b4, b5, b6, b7, b8, b9, b10, b11, b12, b13, b14] 0 : Int) (fieldsZ 8) == 0) = (!b0 && !b1 && !b2 && !b3 && !b4 && !b9 && !b10 && !b11 && !b12 && !b14) := by
  decide +kernel

set_option maxRecDepth 100000 in
theorem fits10 : ∀ b0 b1 b2 b3 b4 b5 b6 b7 b8 b9 b10 b11 b12 b13 b14 : Bool, (bits .andNot .i64 (heldN [b0, b1, b2, b3, b4, b5, b6, b7, b8, b9, b10, b11, b12, b13, b14] 0 : Int) (fieldsZ 10) == 0) = (!b0 && !b1 && !b2 && !b3 && !b4 && !b6 && !b7 && !b8 && !b10 && !b11 && !b12 && !b13) := by
  decide +kernel

end Go.Proofs.YtfmlhdikagogcaaDoor
