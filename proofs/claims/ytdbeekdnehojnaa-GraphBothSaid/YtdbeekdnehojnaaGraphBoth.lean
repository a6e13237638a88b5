/-
  GraphBoth: edges are from both sides, who is near somebody has him near, who can be come to can come back: for every script, with no condition.
-/
import Derived.Test.YtdbeekdnehojnaaJ37
import Derived.Test.YtdbeekdnehojnaaJ36
import Derived.Test.YtdbeekdnehojnaaJ35
namespace Go.Proofs.Ytdbeekdnehojnaa
open Go.ChangeShapes Go.WideShapes Go.ChangeAt Go.RowKit

theorem graphBoth_law (H : Type) (enc : TypeId × Value → H) (W : World) (base : Nat) (args : Array Value) (ds : List (DataW H)) (p : List MemPlace)
    (hval : ∀ (j : Nat) t v, Try.f6.params[j]? = some t → args[j]? = some v → Value.okWide Try.prog W .any base t v)
    (hA0 : DataW.TrodAll enc Try.prog W 0 (fun _ => true) true Try.f6.params.toList args.toList ds p) :
    Law 6 args W ∧ ∃ d0 : DataW H, ds = [d0] := by
  have hA := hA0
  rw [Try.params6] at hA hval
  obtain ⟨v0, d0, rfl, rfl, h0⟩ := trodAll_one hA
  obtain ⟨l0, n0, g0⟩ := open_scriptO (hval 0 22 v0 rfl rfl) h0
  exact ⟨graphBoth l0 v0 W n0 g0, _, rfl⟩

set_option maxRecDepth 100000 in
theorem graphBoth_lifted (os : Os) (started : os.Started) (H : Type) (enc : TypeId × Value → H) :
    ReturnsInHanded {} Try.checked os 6 .any (Rows.graphBothSpec.pre6 enc Try.prog Try.f6 Rows.graphBothRow.domain false) (Rows.graphBothSpec.post enc Try.prog Try.f6 false true false false) := by
  refine returnsInHanded_of_change (C := Try.checked) own started (by kernel_rfl) Try.func6
    (ChangeSpec.witness6 (enc := enc) (C := Try.checked) false ⟨#[], #[.slice none 0 0], []⟩ 8 (by kernel_rfl) (by kernel_rfl) (by kernel_rfl) (by kernel_rfl)) ?_
  intro W base args ds gs before hval hW _ _
  have hW' := hW
  obtain ⟨p, q, hA, hV, rfl, _, _⟩ := hW
  obtain ⟨rfl, rfl⟩ := trodVars_none hV
  obtain ⟨hlaw, d0, rfl⟩ := graphBoth_law H enc W base args ds p hval hA
  refine hlaw.mono fun e W' ⟨he, hb⟩ => ⟨_, he, ?_⟩
  exact law_post (f := Try.f6) (s := Rows.graphBothSpec) hW' rfl rfl rfl rfl rfl (by rw [Try.params6]; decide +kernel) hb

theorem graphBoth_holds : Rows.GraphBothSaid :=
  OpenClaim.holds_of_wide 6 Try.f6 rfl rfl rfl rfl rfl rfl rfl ⟨rfl, rfl, rfl, rfl, rfl⟩ rfl rfl rfl rfl rfl (by kernel_rfl) Try.func6 (by kernel_rfl)
    (of_decide_eq_true (by kernel_rfl)) (by unfold Func.isWrapper; first | (rw [if_pos (by decide +kernel)]; kernel_rfl) | (rw [if_neg (by decide +kernel)]; exact ⟨rfl, rfl⟩))
    (fun os started H enc _ => graphBoth_lifted os started H enc)

end Go.Proofs.Ytdbeekdnehojnaa
