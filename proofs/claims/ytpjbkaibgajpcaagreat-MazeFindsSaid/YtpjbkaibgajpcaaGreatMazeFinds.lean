/- MazeFinds: whatever is found is a node, with its vector and how far it is, each once, in order: for every input, with no condition. -/
import Derived.Test.YtpjbkaibgajpcaaGreatLzE
import Derived.Test.YtpjbkaibgajpcaaGreatNodeArg
import Derived.Test.YtpjbkaibgajpcaaGreatJ09
namespace Go.Proofs.YtpjbkaibgajpcaaGreat
open Go.ChangeShapes Go.WideShapes Go.ChangeAt Go.RowKit
set_option maxRecDepth 20000

set_option maxRecDepth 100000 in
theorem mazeFinds_law (H : Type) (enc : TypeId × Value → H) (W : World) (base : Nat) (args : Array Value) (ds : List (DataW H)) (p : List MemPlace)
    (hval : ∀ (j : Nat) t v, Tryz.f3.params[j]? = some t → args[j]? = some v → Value.okWide Tryz.prog W .any base t v)
    (hA0 : DataW.TrodAll enc Tryz.prog W 0 (fun _ => true) true Tryz.f3.params.toList args.toList ds p) :
    Law 3 args W ∧ ∃ (d0 : DataW H) (d1 : DataW H) (d2 : DataW H), ds = [d0, d1, d2] := by
  have hA := hA0
  rw [Tryz.params3] at hA hval
  obtain ⟨v0, v1, v2, d0, d1, d2, p0, p1, p2, rfl, rfl, rfl, h0, h1, h2⟩ := trodAll_three hA
  obtain ⟨l0, n0⟩ := open_nodes (hval 0 22 v0 rfl rfl) h0
  obtain ⟨x1, n1, wf1⟩ := open_nums Tryz.underlying23 Tryz.underlying21 (by kernel_rfl) (hval 1 23 v1 rfl rfl) h1
  obtain ⟨a2, rfl, rfl, rfl, wf2⟩ := open_int Tryz.underlying5 (hval 2 5 v2 rfl rfl) h2
  have w2 := wf2; simp [Lit.wf, IntKind.min, IntKind.max, IntKind.signed, IntKind.bits] at w2
  exact ⟨mazeFinds W l0 v0 n0 v1 x1 n1 a2 w2, _, _, _, rfl⟩

set_option maxRecDepth 100000 in
theorem mazeFinds_lifted (os : Os) (started : os.Started) (H : Type) (enc : TypeId × Value → H) :
    ReturnsInHanded {} Tryz.checked os 3 .any (Rows.mazeFindsSpec.pre6 enc Tryz.prog Tryz.f3 Rows.mazeFindsRow.domain false) (Rows.mazeFindsSpec.post enc Tryz.prog Tryz.f3 false true false false) := by
  refine returnsInHanded_of_change (C := Tryz.checked) own started (by kernel_rfl) Tryz.func3
    (ChangeSpec.witness6 (enc := enc) (C := Tryz.checked) false ⟨#[], #[.slice none 0 0, .slice none 0 0, .int .u8 0], []⟩ 8 (by kernel_rfl) (by kernel_rfl) (by kernel_rfl) (by kernel_rfl)) ?_
  intro W base args ds gs before hval hW _ _
  have hW' := hW
  obtain ⟨p, q, hA, hV, rfl, _, _⟩ := hW
  obtain ⟨rfl, rfl⟩ := trodVars_none hV
  obtain ⟨hlaw, d0, d1, d2, rfl⟩ := mazeFinds_law H enc W base args ds p hval hA
  refine hlaw.mono fun e W' ⟨he, hb⟩ => ⟨_, he, ?_⟩
  exact law_post (f := Tryz.f3) (s := Rows.mazeFindsSpec) hW' rfl rfl rfl rfl rfl (by rw [Tryz.params3]; decide +kernel) hb

theorem mazeFinds_holds : Rows.MazeFindsSaid :=
  OpenClaim.holds_of_wide 3 Tryz.f3 rfl rfl rfl rfl rfl rfl rfl ⟨rfl, rfl, rfl, rfl, rfl⟩ rfl rfl rfl rfl rfl (by kernel_rfl) Tryz.func3 (by kernel_rfl)
    (of_decide_eq_true (by kernel_rfl)) (by unfold Func.isWrapper; first | (rw [if_pos (by decide +kernel)]; kernel_rfl) | (rw [if_neg (by decide +kernel)]; exact ⟨rfl, rfl⟩))
    (fun os started H enc _ => mazeFinds_lifted os started H enc)

end Go.Proofs.YtpjbkaibgajpcaaGreat
