/-
  BestPlays: every list of hits, added some at a time, leaves the document's; at each step the worst, and whether there is room; hits come back untouched, and are not kept; a nil list's, too: for every number and every slice of lists, with no condition.
-/
import Derived.Test.YtfjhipaoljnfaaaPlayC
import Derived.Test.YtfjhipaoljnfaaaListsArg
import Derived.Test.YtfjhipaoljnfaaaClose
namespace Go.Proofs.Ytfjhipaoljnfaaa
open Go.ChangeShapes Go.WideShapes Go.ChangeAt Go.RowKit

theorem bestPlays_law (H : Type) (enc : TypeId × Value → H) (W : World) (base : Nat) (args : Array Value) (ds : List (DataW H)) (p : List MemPlace)
    (hval : ∀ (j : Nat) t v, Try.f8.params[j]? = some t → args[j]? = some v → Value.okWide Try.prog W .any base t v)
    (hA0 : DataW.TrodAll enc Try.prog W 0 (fun _ => true) true Try.f8.params.toList args.toList ds p) :
    Law 8 args W ∧ ∃ (d0 : DataW H) (d1 : DataW H), ds = [d0, d1] := by
  have hA := hA0
  rw [Try.params8] at hA hval
  obtain ⟨v0, v1, d0, d1, p0, p1, rfl, rfl, rfl, h0, h1⟩ := trodAll_two hA
  obtain ⟨a0, rfl, rfl, rfl, wf0⟩ := open_int Try.underlying3 (hval 0 3 v0 rfl rfl) h0
  have w0 := wf0; simp [Lit.wf, IntKind.min, IntKind.max, IntKind.signed, IntKind.bits] at w0
  obtain ⟨l1, n1, g1⟩ := open_lists (hval 1 38 v1 rfl rfl) h1
  exact ⟨bestPlays a0 l1 v1 W n1, _, _, rfl⟩

set_option maxRecDepth 100000 in
theorem bestPlays_lifted (os : Os) (started : os.Started) (H : Type) (enc : TypeId × Value → H) :
    ReturnsInHanded {} Try.checked os 8 .any (Rows.bestPlaysSpec.pre6 enc Try.prog Try.f8 Rows.bestPlaysRow.domain false) (Rows.bestPlaysSpec.post enc Try.prog Try.f8 false true false false) := by
  refine returnsInHanded_of_change (C := Try.checked) own started (by kernel_rfl) Try.func8
    (ChangeSpec.witness6 (enc := enc) (C := Try.checked) false ⟨#[], #[.int .i64 0, .slice none 0 0], []⟩ 8 (by kernel_rfl) (by kernel_rfl) (by kernel_rfl) (by kernel_rfl)) ?_
  intro W base args ds gs before hval hW _ _
  have hW' := hW
  obtain ⟨p, q, hA, hV, rfl, _, _⟩ := hW
  obtain ⟨rfl, rfl⟩ := trodVars_none hV
  obtain ⟨hlaw, d0, d1, rfl⟩ := bestPlays_law H enc W base args ds p hval hA
  refine hlaw.mono fun e W' ⟨he, hb⟩ => ⟨_, he, ?_⟩
  exact law_post (f := Try.f8) (s := Rows.bestPlaysSpec) hW' rfl rfl rfl rfl rfl (by rw [Try.params8]; decide +kernel) hb

theorem bestPlays_holds : Rows.BestPlaysSaid :=
  OpenClaim.holds_of_wide 8 Try.f8 rfl rfl rfl rfl rfl rfl rfl ⟨rfl, rfl, rfl, rfl, rfl⟩ rfl rfl rfl rfl rfl (by kernel_rfl) Try.func8 (by kernel_rfl)
    (of_decide_eq_true (by kernel_rfl)) (by unfold Func.isWrapper; first | (rw [if_pos (by decide +kernel)]; kernel_rfl) | (rw [if_neg (by decide +kernel)]; exact ⟨rfl, rfl⟩))
    (fun os started H enc _ => bestPlays_lifted os started H enc)

end Go.Proofs.Ytfjhipaoljnfaaa
