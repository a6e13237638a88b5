/- An argument that is a slice of nodes. -/
import Derived.Test.YtpjbkaibgajpcaaGreatJ09
namespace Go.Proofs.YtpjbkaibgajpcaaGreat
open Go.ChangeShapes Go.WideShapes Go.ChangeAt Go.RowKit Go.Deep
set_option maxRecDepth 20000

set_option maxRecDepth 100000 in
theorem open_nodes {H : Type} {enc : TypeId × Value → H} {W : World} {base : Nat} {v : Value} {d : DataW H} {ps : List MemPlace}
    (hok : Value.okWide Tryz.prog W .any base 22 v) (h : DataW.Trod enc Tryz.prog W 0 (fun _ => true) true 22 v d ps) :
    ∃ l, Recs W v l := by
  obtain ⟨a0, len, cap, rfl⟩ := okWide_slice Tryz.underlying22 hok
  obtain ⟨fuel, hf⟩ := h
  obtain ⟨v, l, hcs, hr, _⟩ := recs_of_trod Tryz.underlying22 Tryz.underlying74 (by kernel_rfl) ⟨rfl, rfl⟩ Tryz.underlying36 (by kernel_rfl) ⟨rfl, rfl⟩ Tryz.underlying23 (by kernel_rfl) Tryz.underlying21 (by kernel_rfl) hf
  simp [Value.cells] at hcs
  subst hcs
  exact ⟨l, hr⟩

end Go.Proofs.YtpjbkaibgajpcaaGreat
