import Derived.Test.YtidaecdlpjfngaaClose
import Derived.Lib.SmallJoins
namespace Go.Proofs.Ytidaecdlpjfngaa
open Go.ChangeShapes Go.WideShapes Go.ChangeAt Go.RowKit

/-- a hit that comes by value: two numbers and a vector's value -/
theorem open_hit {H : Type} {enc : TypeId × Value → H} {W : World} {base : Nat} {v : Value} {d : DataW H} {ps : List MemPlace}
    (hok : Value.okWide Try.prog W .any base 36 v) (h : DataW.Trod enc Try.prog W 0 (fun _ => true) true 36 v d ps) :
    ∃ (i e : Int) (u : Value), v = .agg #[.int .u64 i, .int .u64 e, u] := by
  obtain ⟨c0, c1, c2, y0, y1, y2, m, hv, _, _, hy0, hy1, hy2⟩ := Joins.open_agg3 Try.underlying36 (by kernel_rfl) (by kernel_rfl) hok h
  obtain ⟨a, e0, _, _⟩ := DataW.trod_int Try.underlying25 hy0
  obtain ⟨b, e1, _, _⟩ := DataW.trod_int Try.underlying25 hy1
  simp at e0 e1
  exact ⟨a, b, c2, by rw [hv, e0, e1]⟩

end Go.Proofs.Ytidaecdlpjfngaa
