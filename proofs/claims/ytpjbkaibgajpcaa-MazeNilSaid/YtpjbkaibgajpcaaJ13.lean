/-
  The document's Sort, walked.
  best's document: all but one; the worst.
-/
import Derived.Test.YtpjbkaibgajpcaaJ12
namespace Go.Proofs.Ytpjbkaibgajpcaa
open Go.RowKit

end Go.Proofs.Ytpjbkaibgajpcaa

namespace Go.Proofs.Ytpjbkaibgajpcaa
open Go.RowKit

theorem SrcAt.sub {w : World} {b off m c : Nat} {rs : List Hv} (h : SrcAt w (some ⟨b, off, none⟩) m c 3 (flat3 rs)) (a k : Nat) (c' : Nat) (hk : a + k ≤ rs.length) : SrcAt w (some ⟨b, off + a * 3, none⟩) k c' 3 (flat3 ((rs.drop a).take k)) := by
  refine ⟨by rw [flat3_length, List.length_take, List.length_drop]; rw [Nat.min_eq_left (by omega)], by simp, fun ad ha j u hj => ?_⟩
  obtain rfl := Option.some.inj ha
  have hjl := (List.getElem?_eq_some_iff.1 hj).1
  rw [flat3_length, List.length_take, List.length_drop, Nat.min_eq_left (by omega)] at hjl
  rw [← flat3_take, ← flat3_drop, List.getElem?_take, if_pos (by omega), List.getElem?_drop] at hj
  have := h.cells _ rfl _ _ hj
  rw [Addr.add_lit] at this ⊢
  rw [Nat.add_assoc]; exact this

end Go.Proofs.Ytpjbkaibgajpcaa
