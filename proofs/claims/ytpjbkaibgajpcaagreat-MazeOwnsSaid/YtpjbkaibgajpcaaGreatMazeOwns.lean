/- MazeOwns: what a maze tells is its own, written over it changes nothing: for every input, with no condition. -/
import Derived.Test.YtpjbkaibgajpcaaGreatLzH
import Derived.Test.YtpjbkaibgajpcaaGreatNodeArg
import Derived.Test.YtpjbkaibgajpcaaGreatJ09
namespace Go.Proofs.YtpjbkaibgajpcaaGreat
open Go.ChangeShapes Go.WideShapes Go.ChangeAt Go.RowKit
set_option maxRecDepth 20000

set_option maxRecDepth 100000 in
theorem mazeOwns_law (H : Type) (enc : TypeId × Value → H) (W : World) (base : Nat) (args : Array Value) (ds : List (DataW H)) (p : List MemPlace)
    (hval : ∀ (j : Nat) t v, Tryz.f7.params[j]? = some t → args[j]? = some v → Value.okWide Tryz.prog W .any base t v)
    (hA0 : DataW.TrodAll enc Tryz.prog W 0 (fun _ => true) true Tryz.f7.params.toList args.toList ds p) :
    Law 7 args W ∧ ∃ (d0 : DataW H) (d1 : DataW H) (d2 : DataW H), ds = [d0, d1, d2] := by
  have hA := hA0
  rw [Tryz.params7] at hA hval
  obtain ⟨v0, v1, v2, d0, d1, d2, p0, p1, p2, rfl, rfl, rfl, h0, h1, h2⟩ := trodAll_three hA
  obtain ⟨l0, n0⟩ := open_nodes (hval 0 22 v0 rfl rfl) h0
  obtain ⟨x1, n1, wf1⟩ := open_nums Tryz.underlying23 Tryz.underlying21 (by kernel_rfl) (hval 1 23 v1 rfl rfl) h1
  obtain ⟨a2, rfl, rfl, rfl, wf2⟩ := open_int Tryz.underlying21 (hval 2 21 v2 rfl rfl) h2
  have w2 := wf2; simp [Lit.wf, IntKind.min, IntKind.max, IntKind.signed, IntKind.bits] at w2
  exact ⟨mazeOwns W l0 v0 n0 v1 x1 n1 a2, _, _, _, rfl⟩

set_option maxRecDepth 100000 in
theorem mazeOwns_lifted (os : Os) (started : os.Started) (H : Type) (enc : TypeId × Value → H) :
    ReturnsInHanded {} Tryz.checked os 7 .any (Rows.mazeOwnsSpec.pre6 enc Tryz.prog Tryz.f7 Rows.mazeOwnsRow.domain false) (Rows.mazeOwnsSpec.post enc Tryz.prog Tryz.f7 false true false false) := by
  refine returnsInHanded_of_change (C := Tryz.checked) own started (by kernel_rfl) Tryz.func7
    (ChangeSpec.witness6 (enc := enc) (C := Tryz.checked) false ⟨#[], #[.slice none 0 0, .slice none 0 0, .int .i32 0], []⟩ 8 (by kernel_rfl) (by kernel_rfl) (by kernel_rfl) (by kernel_rfl)) ?_
  intro W base args ds gs before hval hW _ _
  have hW' := hW
  obtain ⟨p, q, hA, hV, rfl, _, _⟩ := hW
  obtain ⟨rfl, rfl⟩ := trodVars_none hV
  obtain ⟨hlaw, d0, d1, d2, rfl⟩ := mazeOwns_law H enc W base args ds p hval hA
  refine hlaw.mono fun e W' ⟨he, hb⟩ => ⟨_, he, ?_⟩
  exact law_post (f := Tryz.f7) (s := Rows.mazeOwnsSpec) hW' rfl rfl rfl rfl rfl (by rw [Tryz.params7]; decide +kernel) hb

theorem mazeOwns_holds : Rows.MazeOwnsSaid :=
  OpenClaim.holds_of_wide 7 Tryz.f7 rfl rfl rfl rfl rfl rfl rfl ⟨rfl, rfl, rfl, rfl, rfl⟩ rfl rfl rfl rfl rfl (by kernel_rfl) Tryz.func7 (by kernel_rfl)
    (of_decide_eq_true (by kernel_rfl)) (by unfold Func.isWrapper; first | (rw [if_pos (by decide +kernel)]; kernel_rfl) | (rw [if_neg (by decide +kernel)]; exact ⟨rfl, rfl⟩))
    (fun os started H enc _ => mazeOwns_lifted os started H enc)

end Go.Proofs.YtpjbkaibgajpcaaGreat
