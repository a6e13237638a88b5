/-
  GraphMany: nodes that a graph is made of are as if they had been added, each once: for every list of numbers, with no condition.
-/
import Derived.Test.YtdbeekdnehojnaaJ39
import Derived.Test.YtdbeekdnehojnaaJ35
namespace Go.Proofs.Ytdbeekdnehojnaa
open Go.ChangeShapes Go.WideShapes Go.ChangeAt Go.RowKit

theorem graphMany_law (H : Type) (enc : TypeId × Value → H) (W : World) (base : Nat) (args : Array Value) (ds : List (DataW H)) (p : List MemPlace)
    (hval : ∀ (j : Nat) t v, Try.f5.params[j]? = some t → args[j]? = some v → Value.okWide Try.prog W .any base t v)
    (hA0 : DataW.TrodAll enc Try.prog W 0 (fun _ => true) true Try.f5.params.toList args.toList ds p) :
    Law 5 args W ∧ ∃ d0 : DataW H, ds = [d0] := by
  have hA := hA0
  rw [Try.params5] at hA hval
  obtain ⟨v0, d0, rfl, rfl, h0⟩ := trodAll_one hA
  obtain ⟨x0, n0, wf0⟩ := open_nums Try.underlying27 Try.underlying31 (by kernel_rfl) (hval 0 27 v0 rfl rfl) h0
  exact ⟨graphMany x0 v0 W n0, _, rfl⟩

set_option maxRecDepth 100000 in
theorem graphMany_lifted (os : Os) (started : os.Started) (H : Type) (enc : TypeId × Value → H) :
    ReturnsInHanded {} Try.checked os 5 .any (Rows.graphManySpec.pre6 enc Try.prog Try.f5 Rows.graphManyRow.domain false) (Rows.graphManySpec.post enc Try.prog Try.f5 false true false false) := by
  refine returnsInHanded_of_change (C := Try.checked) own started (by kernel_rfl) Try.func5
    (ChangeSpec.witness6 (enc := enc) (C := Try.checked) false ⟨#[], #[.slice none 0 0], []⟩ 8 (by kernel_rfl) (by kernel_rfl) (by kernel_rfl) (by kernel_rfl)) ?_
  intro W base args ds gs before hval hW _ _
  have hW' := hW
  obtain ⟨p, q, hA, hV, rfl, _, _⟩ := hW
  obtain ⟨rfl, rfl⟩ := trodVars_none hV
  obtain ⟨hlaw, d0, rfl⟩ := graphMany_law H enc W base args ds p hval hA
  refine hlaw.mono fun e W' ⟨he, hb⟩ => ⟨_, he, ?_⟩
  exact law_post (f := Try.f5) (s := Rows.graphManySpec) hW' rfl rfl rfl rfl rfl (by rw [Try.params5]; decide +kernel) hb

theorem graphMany_holds : Rows.GraphManySaid :=
  OpenClaim.holds_of_wide 5 Try.f5 rfl rfl rfl rfl rfl rfl rfl ⟨rfl, rfl, rfl, rfl, rfl⟩ rfl rfl rfl rfl rfl (by kernel_rfl) Try.func5 (by kernel_rfl)
    (of_decide_eq_true (by kernel_rfl)) (by unfold Func.isWrapper; first | (rw [if_pos (by decide +kernel)]; kernel_rfl) | (rw [if_neg (by decide +kernel)]; exact ⟨rfl, rfl⟩))
    (fun os started H enc _ => graphMany_lifted os started H enc)

end Go.Proofs.Ytdbeekdnehojnaa
