/-
  WalkRuns: every walk, over any nodes and edges, from any of them, tells the best of the document, and goes to as many nodes: for every input, with no condition.
-/
import Derived.Test.YtjnkiloomdeljaaJ49
import Derived.Test.YtjnkiloomdeljaaJ14
namespace Go.Proofs.Ytjnkiloomdeljaa
open Go.ChangeShapes Go.WideShapes Go.ChangeAt Go.RowKit

set_option maxRecDepth 100000 in
theorem walkRuns_law (H : Type) (enc : TypeId × Value → H) (W : World) (base : Nat) (args : Array Value) (ds : List (DataW H)) (p : List MemPlace)
    (hval : ∀ (j : Nat) t v, Try.f3.params[j]? = some t → args[j]? = some v → Value.okWide Try.prog W .any base t v)
    (hA0 : DataW.TrodAll enc Try.prog W 0 (fun _ => true) true Try.f3.params.toList args.toList ds p) :
    Law 3 args W ∧ ∃ (d0 : DataW H) (d1 : DataW H) (d2 : DataW H) (d3 : DataW H), ds = [d0, d1, d2, d3] := by
  have hA := hA0
  rw [Try.params3] at hA hval
  obtain ⟨v0, v1, v2, v3, d0, d1, d2, d3, p0, p1, p2, p3, rfl, rfl, rfl, h0, h1, h2, h3⟩ := trodAll_four hA
  obtain ⟨l0, n0, g0⟩ := open_hits (hval 0 22 v0 rfl rfl) h0
  obtain ⟨l1, n1⟩ := open_pairs (hval 1 23 v1 rfl rfl) h1
  obtain ⟨a2, rfl, rfl, rfl, wf2⟩ := open_int Try.underlying3 (hval 2 3 v2 rfl rfl) h2
  have w2 := wf2; simp [Lit.wf, IntKind.min, IntKind.max, IntKind.signed, IntKind.bits] at w2
  obtain ⟨x3, n3, wf3⟩ := open_nums Try.underlying24 Try.underlying37 (by kernel_rfl) (hval 3 24 v3 rfl rfl) h3
  exact ⟨walkRuns W _ l0 v0 n0 l1 v1 n1 a2 x3 v3 n3, _, _, _, _, rfl⟩

set_option maxRecDepth 100000 in
theorem walkRuns_lifted (os : Os) (started : os.Started) (H : Type) (enc : TypeId × Value → H) :
    ReturnsInHanded {} Try.checked os 3 .any (Rows.walkRunsSpec.pre6 enc Try.prog Try.f3 Rows.walkRunsRow.domain false) (Rows.walkRunsSpec.post enc Try.prog Try.f3 false true false false) := by
  refine returnsInHanded_of_change (C := Try.checked) own started (by kernel_rfl) Try.func3
    (ChangeSpec.witness6 (enc := enc) (C := Try.checked) false ⟨#[], #[.slice none 0 0, .slice none 0 0, .int .i64 0, .slice none 0 0], []⟩ 8 (by kernel_rfl) (by kernel_rfl) (by kernel_rfl) (by kernel_rfl)) ?_
  intro W base args ds gs before hval hW _ _
  have hW' := hW
  obtain ⟨p, q, hA, hV, rfl, _, _⟩ := hW
  obtain ⟨rfl, rfl⟩ := trodVars_none hV
  obtain ⟨hlaw, d0, d1, d2, d3, rfl⟩ := walkRuns_law H enc W base args ds p hval hA
  refine hlaw.mono fun e W' ⟨he, hb⟩ => ⟨_, he, ?_⟩
  exact law_post (f := Try.f3) (s := Rows.walkRunsSpec) hW' rfl rfl rfl rfl rfl (by rw [Try.params3]; decide +kernel) hb

theorem walkRuns_holds : Rows.WalkRunsSaid :=
  OpenClaim.holds_of_wide 3 Try.f3 rfl rfl rfl rfl rfl rfl rfl ⟨rfl, rfl, rfl, rfl, rfl⟩ rfl rfl rfl rfl rfl (by kernel_rfl) Try.func3 (by kernel_rfl)
    (of_decide_eq_true (by kernel_rfl)) (by unfold Func.isWrapper; first | (rw [if_pos (by decide +kernel)]; kernel_rfl) | (rw [if_neg (by decide +kernel)]; exact ⟨rfl, rfl⟩))
    (fun os started H enc _ => walkRuns_lifted os started H enc)

end Go.Proofs.Ytjnkiloomdeljaa
