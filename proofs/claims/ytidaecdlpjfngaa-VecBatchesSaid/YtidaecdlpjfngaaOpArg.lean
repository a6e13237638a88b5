import Derived.Test.YtidaecdlpjfngaaOpen
namespace Go.Proofs.Ytidaecdlpjfngaa
open Go.ChangeShapes Go.WideShapes Go.ChangeAt Go.RowKit Go.Deep

/-- an argument that is a slice of ops reads as pairs -/
theorem open_ops {H : Type} {enc : TypeId × Value → H} {W : World} {base : Nat} {v : Value} {d : DataW H} {ps : List MemPlace}
    (hok : Value.okWide Try.prog W .any base 43 v) (h : DataW.Trod enc Try.prog W 0 (fun _ => true) true 43 v d ps) :
    ∃ l, Recs W v l := by
  obtain ⟨a0, len, cap, rfl⟩ := okWide_slice Try.underlying43 hok
  obtain ⟨fuel, hf⟩ := h
  obtain ⟨v, l, hcs, hr, _⟩ := recs_of_trod Try.underlying43 Try.underlying51 (by kernel_rfl) ⟨rfl, rfl⟩ Try.underlying25 (by kernel_rfl) ⟨rfl, rfl⟩ Try.underlying22 (by kernel_rfl) Try.underlying21 (by kernel_rfl) hf
  simp [Value.cells] at hcs
  subst hcs
  exact ⟨l, hr⟩

end Go.Proofs.Ytidaecdlpjfngaa
