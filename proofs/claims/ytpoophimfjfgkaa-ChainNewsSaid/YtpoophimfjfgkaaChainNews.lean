/-
  ChainNews: of any versions a chain is made, or it is said why not, just as they are put one by one: for every slice of versions, with no condition.
-/
import Derived.Test.YtpoophimfjfgkaaChainR
import Derived.Test.YtpoophimfjfgkaaChainS
import Derived.Test.YtpoophimfjfgkaaClose
namespace Go.Proofs.Ytpoophimfjfgkaa
open Go.ChangeShapes Go.WideShapes Go.ChangeAt Go.RowKit

theorem chainNews_law (H : Type) (enc : TypeId × Value → H) (W : World) (base : Nat) (args : Array Value) (ds : List (DataW H)) (p : List MemPlace)
    (hval : ∀ (j : Nat) t v, Try.f5.params[j]? = some t → args[j]? = some v → Value.okWide Try.prog W .any base t v)
    (hA0 : DataW.TrodAll enc Try.prog W 0 (fun _ => true) true Try.f5.params.toList args.toList ds p) :
    Law 5 args W ∧ ∃ d0 : DataW H, ds = [d0] := by
  have hA := hA0
  rw [Try.params5] at hA hval
  obtain ⟨v0, d0, rfl, rfl, h0⟩ := trodAll_one hA
  obtain ⟨l0, n0, g0⟩ := open_vers (hval 0 28 v0 rfl rfl) h0
  exact ⟨chainNews l0 g0 v0 W n0, _, rfl⟩

set_option maxRecDepth 100000 in
theorem chainNews_lifted (os : Os) (started : os.Started) (H : Type) (enc : TypeId × Value → H) :
    ReturnsInHanded {} Try.checked os 5 .any (Rows.chainNewsSpec.pre6 enc Try.prog Try.f5 Rows.chainNewsRow.domain false) (Rows.chainNewsSpec.post enc Try.prog Try.f5 false true false false) := by
  refine returnsInHanded_of_change (C := Try.checked) own started (by kernel_rfl) Try.func5
    (ChangeSpec.witness6 (enc := enc) (C := Try.checked) false ⟨#[], #[.slice none 0 0], []⟩ 8 (by kernel_rfl) (by kernel_rfl) (by kernel_rfl) (by kernel_rfl)) ?_
  intro W base args ds gs before hval hW _ _
  have hW' := hW
  obtain ⟨p, q, hA, hV, rfl, _, _⟩ := hW
  obtain ⟨rfl, rfl⟩ := trodVars_none hV
  obtain ⟨hlaw, d0, rfl⟩ := chainNews_law H enc W base args ds p hval hA
  refine hlaw.mono fun e W' ⟨he, hb⟩ => ⟨_, he, ?_⟩
  exact law_post (f := Try.f5) (s := Rows.chainNewsSpec) hW' rfl rfl rfl rfl rfl (by rw [Try.params5]; decide +kernel) hb

theorem chainNews_holds : Rows.ChainNewsSaid :=
  OpenClaim.holds_of_wide 5 Try.f5 rfl rfl rfl rfl rfl rfl rfl ⟨rfl, rfl, rfl, rfl, rfl⟩ rfl rfl rfl rfl rfl (by kernel_rfl) Try.func5 (by kernel_rfl)
    (of_decide_eq_true (by kernel_rfl)) (by unfold Func.isWrapper; first | (rw [if_pos (by decide +kernel)]; kernel_rfl) | (rw [if_neg (by decide +kernel)]; exact ⟨rfl, rfl⟩))
    (fun os started H enc _ => chainNews_lifted os started H enc)

end Go.Proofs.Ytpoophimfjfgkaa
