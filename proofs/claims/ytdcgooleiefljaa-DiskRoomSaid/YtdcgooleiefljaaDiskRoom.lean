/-
  DiskRoom: no more bytes are ever on a disk than it has room for, nor more files than there may be, and what is refused changes nothing: for every number and every script, with no condition.
-/
import Derived.Test.YtdcgooleiefljaaJ24
import Derived.Test.YtdcgooleiefljaaJ01
namespace Go.Proofs.Ytdcgooleiefljaa
open Go.ChangeShapes Go.WideShapes Go.ChangeAt Go.RowKit

theorem diskRoom_law (H : Type) (enc : TypeId × Value → H) (W : World) (base : Nat) (args : Array Value) (ds : List (DataW H)) (p : List MemPlace)
    (hval : ∀ (j : Nat) t v, Try.f3.params[j]? = some t → args[j]? = some v → Value.okWide Try.prog W .any base t v)
    (hA0 : DataW.TrodAll enc Try.prog W 0 (fun _ => true) true Try.f3.params.toList args.toList ds p) :
    Law 3 args W ∧ ∃ (d0 : DataW H) (d1 : DataW H), ds = [d0, d1] := by
  have hA := hA0
  rw [Try.params3] at hA hval
  obtain ⟨v0, v1, d0, d1, p0, p1, rfl, rfl, rfl, h0, h1⟩ := trodAll_two hA
  obtain ⟨a0, rfl, rfl, rfl, wf0⟩ := open_int Try.underlying22 (hval 0 22 v0 rfl rfl) h0
  have w0 := wf0; simp [Lit.wf, IntKind.min, IntKind.max, IntKind.signed, IntKind.bits] at w0
  obtain ⟨l1, n1, g1⟩ := open_scriptD (hval 1 23 v1 rfl rfl) h1
  exact ⟨diskRoom a0 l1 v1 W w0 n1 g1, _, _, rfl⟩

set_option maxRecDepth 100000 in
theorem diskRoom_lifted (os : Os) (started : os.Started) (H : Type) (enc : TypeId × Value → H) :
    ReturnsInHanded {} Try.checked os 3 .any (Rows.diskRoomSpec.pre6 enc Try.prog Try.f3 Rows.diskRoomRow.domain false) (Rows.diskRoomSpec.post enc Try.prog Try.f3 false true false false) := by
  refine returnsInHanded_of_change (C := Try.checked) own started (by kernel_rfl) Try.func3
    (ChangeSpec.witness6 (enc := enc) (C := Try.checked) false ⟨#[], #[.int .u16 0, .slice none 0 0], []⟩ 8 (by kernel_rfl) (by kernel_rfl) (by kernel_rfl) (by kernel_rfl)) ?_
  intro W base args ds gs before hval hW _ _
  have hW' := hW
  obtain ⟨p, q, hA, hV, rfl, _, _⟩ := hW
  obtain ⟨rfl, rfl⟩ := trodVars_none hV
  obtain ⟨hlaw, d0, d1, rfl⟩ := diskRoom_law H enc W base args ds p hval hA
  refine hlaw.mono fun e W' ⟨he, hb⟩ => ⟨_, he, ?_⟩
  exact law_post (f := Try.f3) (s := Rows.diskRoomSpec) hW' rfl rfl rfl rfl rfl (by rw [Try.params3]; decide +kernel) hb

theorem diskRoom_holds : Rows.DiskRoomSaid :=
  OpenClaim.holds_of_wide 3 Try.f3 rfl rfl rfl rfl rfl rfl rfl ⟨rfl, rfl, rfl, rfl, rfl⟩ rfl rfl rfl rfl rfl (by kernel_rfl) Try.func3 (by kernel_rfl)
    (of_decide_eq_true (by kernel_rfl)) (by unfold Func.isWrapper; first | (rw [if_pos (by decide +kernel)]; kernel_rfl) | (rw [if_neg (by decide +kernel)]; exact ⟨rfl, rfl⟩))
    (fun os started H enc _ => diskRoom_lifted os started H enc)

end Go.Proofs.Ytdcgooleiefljaa
