/- MazeTwins: the same nodes make the same maze: for every input, with no condition. -/
import Derived.Test.YtpjbkaibgajpcaaGreatLzK
import Derived.Test.YtpjbkaibgajpcaaGreatNodeArg
import Derived.Test.YtpjbkaibgajpcaaGreatJ09
namespace Go.Proofs.YtpjbkaibgajpcaaGreat
open Go.ChangeShapes Go.WideShapes Go.ChangeAt Go.RowKit
set_option maxRecDepth 20000

set_option maxRecDepth 100000 in
theorem mazeTwins_law (H : Type) (enc : TypeId × Value → H) (W : World) (base : Nat) (args : Array Value) (ds : List (DataW H)) (p : List MemPlace)
    (hval : ∀ (j : Nat) t v, Tryz.f9.params[j]? = some t → args[j]? = some v → Value.okWide Tryz.prog W .any base t v)
    (hA0 : DataW.TrodAll enc Tryz.prog W 0 (fun _ => true) true Tryz.f9.params.toList args.toList ds p) :
    Law 9 args W ∧ ∃ d0 : DataW H, ds = [d0] := by
  have hA := hA0
  rw [Tryz.params9] at hA hval
  obtain ⟨v0, d0, rfl, rfl, h0⟩ := trodAll_one hA
  obtain ⟨l0, n0⟩ := open_nodes (hval 0 22 v0 rfl rfl) h0
  exact ⟨mazeTwins W l0 v0 n0, _, rfl⟩

set_option maxRecDepth 100000 in
theorem mazeTwins_lifted (os : Os) (started : os.Started) (H : Type) (enc : TypeId × Value → H) :
    ReturnsInHanded {} Tryz.checked os 9 .any (Rows.mazeTwinsSpec.pre6 enc Tryz.prog Tryz.f9 Rows.mazeTwinsRow.domain false) (Rows.mazeTwinsSpec.post enc Tryz.prog Tryz.f9 false true false false) := by
  refine returnsInHanded_of_change (C := Tryz.checked) own started (by kernel_rfl) Tryz.func9
    (ChangeSpec.witness6 (enc := enc) (C := Tryz.checked) false ⟨#[], #[.slice none 0 0], []⟩ 8 (by kernel_rfl) (by kernel_rfl) (by kernel_rfl) (by kernel_rfl)) ?_
  intro W base args ds gs before hval hW _ _
  have hW' := hW
  obtain ⟨p, q, hA, hV, rfl, _, _⟩ := hW
  obtain ⟨rfl, rfl⟩ := trodVars_none hV
  obtain ⟨hlaw, d0, rfl⟩ := mazeTwins_law H enc W base args ds p hval hA
  refine hlaw.mono fun e W' ⟨he, hb⟩ => ⟨_, he, ?_⟩
  exact law_post (f := Tryz.f9) (s := Rows.mazeTwinsSpec) hW' rfl rfl rfl rfl rfl (by rw [Tryz.params9]; decide +kernel) hb

theorem mazeTwins_holds : Rows.MazeTwinsSaid :=
  OpenClaim.holds_of_wide 9 Tryz.f9 rfl rfl rfl rfl rfl rfl rfl ⟨rfl, rfl, rfl, rfl, rfl⟩ rfl rfl rfl rfl rfl (by kernel_rfl) Tryz.func9 (by kernel_rfl)
    (of_decide_eq_true (by kernel_rfl)) (by unfold Func.isWrapper; first | (rw [if_pos (by decide +kernel)]; kernel_rfl) | (rw [if_neg (by decide +kernel)]; exact ⟨rfl, rfl⟩))
    (fun os started H enc _ => mazeTwins_lifted os started H enc)

end Go.Proofs.YtpjbkaibgajpcaaGreat
