/- MazeReaches: from the entry there is a way to each node, with room for all all are found: for every input, with no condition. -/
import Derived.Test.YtpjbkaibgajpcaaGreatLzF
import Derived.Test.YtpjbkaibgajpcaaGreatNodeArg
import Derived.Test.YtpjbkaibgajpcaaGreatJ09
namespace Go.Proofs.YtpjbkaibgajpcaaGreat
open Go.ChangeShapes Go.WideShapes Go.ChangeAt Go.RowKit
set_option maxRecDepth 20000

set_option maxRecDepth 100000 in
theorem mazeReaches_law (H : Type) (enc : TypeId × Value → H) (W : World) (base : Nat) (args : Array Value) (ds : List (DataW H)) (p : List MemPlace)
    (hval : ∀ (j : Nat) t v, Tryz.f6.params[j]? = some t → args[j]? = some v → Value.okWide Tryz.prog W .any base t v)
    (hA0 : DataW.TrodAll enc Tryz.prog W 0 (fun _ => true) true Tryz.f6.params.toList args.toList ds p) :
    Law 6 args W ∧ ∃ (d0 : DataW H) (d1 : DataW H), ds = [d0, d1] := by
  have hA := hA0
  rw [Tryz.params6] at hA hval
  obtain ⟨v0, v1, d0, d1, p0, p1, rfl, rfl, rfl, h0, h1⟩ := trodAll_two hA
  obtain ⟨l0, n0⟩ := open_nodes (hval 0 22 v0 rfl rfl) h0
  obtain ⟨x1, n1, wf1⟩ := open_nums Tryz.underlying23 Tryz.underlying21 (by kernel_rfl) (hval 1 23 v1 rfl rfl) h1
  exact ⟨mazeReaches W l0 v0 n0 v1 x1 n1, _, _, rfl⟩

set_option maxRecDepth 100000 in
theorem mazeReaches_lifted (os : Os) (started : os.Started) (H : Type) (enc : TypeId × Value → H) :
    ReturnsInHanded {} Tryz.checked os 6 .any (Rows.mazeReachesSpec.pre6 enc Tryz.prog Tryz.f6 Rows.mazeReachesRow.domain false) (Rows.mazeReachesSpec.post enc Tryz.prog Tryz.f6 false true false false) := by
  refine returnsInHanded_of_change (C := Tryz.checked) own started (by kernel_rfl) Tryz.func6
    (ChangeSpec.witness6 (enc := enc) (C := Tryz.checked) false ⟨#[], #[.slice none 0 0, .slice none 0 0], []⟩ 8 (by kernel_rfl) (by kernel_rfl) (by kernel_rfl) (by kernel_rfl)) ?_
  intro W base args ds gs before hval hW _ _
  have hW' := hW
  obtain ⟨p, q, hA, hV, rfl, _, _⟩ := hW
  obtain ⟨rfl, rfl⟩ := trodVars_none hV
  obtain ⟨hlaw, d0, d1, rfl⟩ := mazeReaches_law H enc W base args ds p hval hA
  refine hlaw.mono fun e W' ⟨he, hb⟩ => ⟨_, he, ?_⟩
  exact law_post (f := Tryz.f6) (s := Rows.mazeReachesSpec) hW' rfl rfl rfl rfl rfl (by rw [Tryz.params6]; decide +kernel) hb

theorem mazeReaches_holds : Rows.MazeReachesSaid :=
  OpenClaim.holds_of_wide 6 Tryz.f6 rfl rfl rfl rfl rfl rfl rfl ⟨rfl, rfl, rfl, rfl, rfl⟩ rfl rfl rfl rfl rfl (by kernel_rfl) Tryz.func6 (by kernel_rfl)
    (of_decide_eq_true (by kernel_rfl)) (by unfold Func.isWrapper; first | (rw [if_pos (by decide +kernel)]; kernel_rfl) | (rw [if_neg (by decide +kernel)]; exact ⟨rfl, rfl⟩))
    (fun os started H enc _ => mazeReaches_lifted os started H enc)

end Go.Proofs.YtpjbkaibgajpcaaGreat
