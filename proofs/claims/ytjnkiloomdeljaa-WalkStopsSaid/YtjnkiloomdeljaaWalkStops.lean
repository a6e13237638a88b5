/-
  WalkStops: a space of which nodes vanish is walked as far as it is there: for every input, with no condition.
-/
import Derived.Test.YtjnkiloomdeljaaJ47
import Derived.Test.YtjnkiloomdeljaaJ13
namespace Go.Proofs.Ytjnkiloomdeljaa
open Go.ChangeShapes Go.WideShapes Go.ChangeAt Go.RowKit

set_option maxRecDepth 100000 in
theorem walkStops_law (H : Type) (enc : TypeId × Value → H) (W : World) (base : Nat) (args : Array Value) (ds : List (DataW H)) (p : List MemPlace)
    (hval : ∀ (j : Nat) t v, Try.f7.params[j]? = some t → args[j]? = some v → Value.okWide Try.prog W .any base t v)
    (hA0 : DataW.TrodAll enc Try.prog W 0 (fun _ => true) true Try.f7.params.toList args.toList ds p) :
    Law 7 args W ∧ ∃ (d0 : DataW H) (d1 : DataW H) (d2 : DataW H) (d3 : DataW H), ds = [d0, d1, d2, d3] := by
  have hA := hA0
  rw [Try.params7] at hA hval
  obtain ⟨v0, v1, v2, v3, d0, d1, d2, d3, p0, p1, p2, p3, rfl, rfl, rfl, h0, h1, h2, h3⟩ := trodAll_four hA
  obtain ⟨l0, n0, g0⟩ := open_hits (hval 0 22 v0 rfl rfl) h0
  obtain ⟨l1, n1⟩ := open_pairs (hval 1 23 v1 rfl rfl) h1
  obtain ⟨a2, rfl, rfl, rfl, wf2⟩ := open_int Try.underlying5 (hval 2 5 v2 rfl rfl) h2
  have w2 := wf2; simp [Lit.wf, IntKind.min, IntKind.max, IntKind.signed, IntKind.bits] at w2
  obtain ⟨a3, rfl, rfl, rfl, wf3⟩ := open_int Try.underlying5 (hval 3 5 v3 rfl rfl) h3
  have w3 := wf3; simp [Lit.wf, IntKind.min, IntKind.max, IntKind.signed, IntKind.bits] at w3
  exact ⟨walkStops W _ l0 v0 n0 l1 v1 n1 a2 a3 w2 w3, _, _, _, _, rfl⟩

set_option maxRecDepth 100000 in
theorem walkStops_lifted (os : Os) (started : os.Started) (H : Type) (enc : TypeId × Value → H) :
    ReturnsInHanded {} Try.checked os 7 .any (Rows.walkStopsSpec.pre6 enc Try.prog Try.f7 Rows.walkStopsRow.domain false) (Rows.walkStopsSpec.post enc Try.prog Try.f7 false true false false) := by
  refine returnsInHanded_of_change (C := Try.checked) own started (by kernel_rfl) Try.func7
    (ChangeSpec.witness6 (enc := enc) (C := Try.checked) false ⟨#[], #[.slice none 0 0, .slice none 0 0, .int .u8 0, .int .u8 0], []⟩ 8 (by kernel_rfl) (by kernel_rfl) (by kernel_rfl) (by kernel_rfl)) ?_
  intro W base args ds gs before hval hW _ _
  have hW' := hW
  obtain ⟨p, q, hA, hV, rfl, _, _⟩ := hW
  obtain ⟨rfl, rfl⟩ := trodVars_none hV
  obtain ⟨hlaw, d0, d1, d2, d3, rfl⟩ := walkStops_law H enc W base args ds p hval hA
  refine hlaw.mono fun e W' ⟨he, hb⟩ => ⟨_, he, ?_⟩
  exact law_post (f := Try.f7) (s := Rows.walkStopsSpec) hW' rfl rfl rfl rfl rfl (by rw [Try.params7]; decide +kernel) hb

theorem walkStops_holds : Rows.WalkStopsSaid :=
  OpenClaim.holds_of_wide 7 Try.f7 rfl rfl rfl rfl rfl rfl rfl ⟨rfl, rfl, rfl, rfl, rfl⟩ rfl rfl rfl rfl rfl (by kernel_rfl) Try.func7 (by kernel_rfl)
    (of_decide_eq_true (by kernel_rfl)) (by unfold Func.isWrapper; first | (rw [if_pos (by decide +kernel)]; kernel_rfl) | (rw [if_neg (by decide +kernel)]; exact ⟨rfl, rfl⟩))
    (fun os started H enc _ => walkStops_lifted os started H enc)

end Go.Proofs.Ytjnkiloomdeljaa
