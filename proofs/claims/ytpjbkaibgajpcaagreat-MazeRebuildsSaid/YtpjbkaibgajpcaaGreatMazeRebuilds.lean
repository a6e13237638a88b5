/- MazeRebuilds: of any of its nodes a maze is built anew: for every input, with no condition. -/
import Derived.Test.YtpjbkaibgajpcaaGreatLzJ
import Derived.Test.YtpjbkaibgajpcaaGreatNodeArg
import Derived.Test.YtpjbkaibgajpcaaGreatJ09
namespace Go.Proofs.YtpjbkaibgajpcaaGreat
open Go.ChangeShapes Go.WideShapes Go.ChangeAt Go.RowKit
set_option maxRecDepth 20000

set_option maxRecDepth 100000 in
theorem mazeRebuilds_law (H : Type) (enc : TypeId × Value → H) (W : World) (base : Nat) (args : Array Value) (ds : List (DataW H)) (p : List MemPlace)
    (hval : ∀ (j : Nat) t v, Tryz.f8.params[j]? = some t → args[j]? = some v → Value.okWide Tryz.prog W .any base t v)
    (hA0 : DataW.TrodAll enc Tryz.prog W 0 (fun _ => true) true Tryz.f8.params.toList args.toList ds p) :
    Law 8 args W ∧ ∃ (d0 : DataW H) (d1 : DataW H) (d2 : DataW H) (d3 : DataW H), ds = [d0, d1, d2, d3] := by
  have hA := hA0
  rw [Tryz.params8] at hA hval
  obtain ⟨v0, v1, v2, v3, d0, d1, d2, d3, p0, p1, p2, p3, rfl, rfl, rfl, h0, h1, h2, h3⟩ := trodAll_four hA
  obtain ⟨l0, n0⟩ := open_nodes (hval 0 22 v0 rfl rfl) h0
  obtain ⟨x1, n1, wf1⟩ := open_nums Tryz.underlying45 Tryz.underlying36 (by kernel_rfl) (hval 1 45 v1 rfl rfl) h1
  obtain ⟨x2, n2, wf2⟩ := open_nums Tryz.underlying23 Tryz.underlying21 (by kernel_rfl) (hval 2 23 v2 rfl rfl) h2
  obtain ⟨a3, rfl, rfl, rfl, wf3⟩ := open_int Tryz.underlying5 (hval 3 5 v3 rfl rfl) h3
  have w3 := wf3; simp [Lit.wf, IntKind.min, IntKind.max, IntKind.signed, IntKind.bits] at w3
  exact ⟨mazeRebuilds W l0 v0 n0 v1 x1 n1 v2 x2 n2 a3 w3, _, _, _, _, rfl⟩

set_option maxRecDepth 100000 in
theorem mazeRebuilds_lifted (os : Os) (started : os.Started) (H : Type) (enc : TypeId × Value → H) :
    ReturnsInHanded {} Tryz.checked os 8 .any (Rows.mazeRebuildsSpec.pre6 enc Tryz.prog Tryz.f8 Rows.mazeRebuildsRow.domain false) (Rows.mazeRebuildsSpec.post enc Tryz.prog Tryz.f8 false true false false) := by
  refine returnsInHanded_of_change (C := Tryz.checked) own started (by kernel_rfl) Tryz.func8
    (ChangeSpec.witness6 (enc := enc) (C := Tryz.checked) false ⟨#[], #[.slice none 0 0, .slice none 0 0, .slice none 0 0, .int .u8 0], []⟩ 8 (by kernel_rfl) (by kernel_rfl) (by kernel_rfl) (by kernel_rfl)) ?_
  intro W base args ds gs before hval hW _ _
  have hW' := hW
  obtain ⟨p, q, hA, hV, rfl, _, _⟩ := hW
  obtain ⟨rfl, rfl⟩ := trodVars_none hV
  obtain ⟨hlaw, d0, d1, d2, d3, rfl⟩ := mazeRebuilds_law H enc W base args ds p hval hA
  refine hlaw.mono fun e W' ⟨he, hb⟩ => ⟨_, he, ?_⟩
  exact law_post (f := Tryz.f8) (s := Rows.mazeRebuildsSpec) hW' rfl rfl rfl rfl rfl (by rw [Tryz.params8]; decide +kernel) hb

theorem mazeRebuilds_holds : Rows.MazeRebuildsSaid :=
  OpenClaim.holds_of_wide 8 Tryz.f8 rfl rfl rfl rfl rfl rfl rfl ⟨rfl, rfl, rfl, rfl, rfl⟩ rfl rfl rfl rfl rfl (by kernel_rfl) Tryz.func8 (by kernel_rfl)
    (of_decide_eq_true (by kernel_rfl)) (by unfold Func.isWrapper; first | (rw [if_pos (by decide +kernel)]; kernel_rfl) | (rw [if_neg (by decide +kernel)]; exact ⟨rfl, rfl⟩))
    (fun os started H enc _ => mazeRebuilds_lifted os started H enc)

end Go.Proofs.YtpjbkaibgajpcaaGreat
