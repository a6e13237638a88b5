/-
  BestRoom: with more room nothing is lost, the nearest few of a lesser number are the first of those of a greater one: for every two numbers and every slice of hits, with no condition.
-/
import Derived.Test.YtfjhipaoljnfaaaBestV
import Derived.Test.YtfjhipaoljnfaaaHitsArg
import Derived.Test.YtfjhipaoljnfaaaClose
namespace Go.Proofs.Ytfjhipaoljnfaaa
open Go.ChangeShapes Go.WideShapes Go.ChangeAt Go.RowKit

theorem bestRoom_law (H : Type) (enc : TypeId × Value → H) (W : World) (base : Nat) (args : Array Value) (ds : List (DataW H)) (p : List MemPlace)
    (hval : ∀ (j : Nat) t v, Try.f7.params[j]? = some t → args[j]? = some v → Value.okWide Try.prog W .any base t v)
    (hA0 : DataW.TrodAll enc Try.prog W 0 (fun _ => true) true Try.f7.params.toList args.toList ds p) :
    Law 7 args W ∧ ∃ (d0 : DataW H) (d1 : DataW H) (d2 : DataW H), ds = [d0, d1, d2] := by
  have hA := hA0
  rw [Try.params7] at hA hval
  obtain ⟨v0, v1, v2, d0, d1, d2, p0, p1, p2, rfl, rfl, rfl, h0, h1, h2⟩ := trodAll_three hA
  obtain ⟨a0, rfl, rfl, rfl, wf0⟩ := open_int Try.underlying5 (hval 0 5 v0 rfl rfl) h0
  have w0 := wf0; simp [Lit.wf, IntKind.min, IntKind.max, IntKind.signed, IntKind.bits] at w0
  obtain ⟨a1, rfl, rfl, rfl, wf1⟩ := open_int Try.underlying5 (hval 1 5 v1 rfl rfl) h1
  have w1 := wf1; simp [Lit.wf, IntKind.min, IntKind.max, IntKind.signed, IntKind.bits] at w1
  obtain ⟨l2, n2, g2⟩ := open_hits (hval 2 22 v2 rfl rfl) h2
  exact ⟨bestRoom a0 a1 w0 w1 l2 v2 W n2, _, _, _, rfl⟩

set_option maxRecDepth 100000 in
theorem bestRoom_lifted (os : Os) (started : os.Started) (H : Type) (enc : TypeId × Value → H) :
    ReturnsInHanded {} Try.checked os 7 .any (Rows.bestRoomSpec.pre6 enc Try.prog Try.f7 Rows.bestRoomRow.domain false) (Rows.bestRoomSpec.post enc Try.prog Try.f7 false true false false) := by
  refine returnsInHanded_of_change (C := Try.checked) own started (by kernel_rfl) Try.func7
    (ChangeSpec.witness6 (enc := enc) (C := Try.checked) false ⟨#[], #[.int .u8 0, .int .u8 0, .slice none 0 0], []⟩ 8 (by kernel_rfl) (by kernel_rfl) (by kernel_rfl) (by kernel_rfl)) ?_
  intro W base args ds gs before hval hW _ _
  have hW' := hW
  obtain ⟨p, q, hA, hV, rfl, _, _⟩ := hW
  obtain ⟨rfl, rfl⟩ := trodVars_none hV
  obtain ⟨hlaw, d0, d1, d2, rfl⟩ := bestRoom_law H enc W base args ds p hval hA
  refine hlaw.mono fun e W' ⟨he, hb⟩ => ⟨_, he, ?_⟩
  exact law_post (f := Try.f7) (s := Rows.bestRoomSpec) hW' rfl rfl rfl rfl rfl (by rw [Try.params7]; decide +kernel) hb

theorem bestRoom_holds : Rows.BestRoomSaid :=
  OpenClaim.holds_of_wide 7 Try.f7 rfl rfl rfl rfl rfl rfl rfl ⟨rfl, rfl, rfl, rfl, rfl⟩ rfl rfl rfl rfl rfl (by kernel_rfl) Try.func7 (by kernel_rfl)
    (of_decide_eq_true (by kernel_rfl)) (by unfold Func.isWrapper; first | (rw [if_pos (by decide +kernel)]; kernel_rfl) | (rw [if_neg (by decide +kernel)]; exact ⟨rfl, rfl⟩))
    (fun os started H enc _ => bestRoom_lifted os started H enc)

end Go.Proofs.Ytfjhipaoljnfaaa
