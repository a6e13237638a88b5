/-
  GraphPlays: every script of nodes and edges has the answers of the document, at each step who is near whom, and to whom there is a way, a nil graph too: for every list of numbers and every script, with no condition.
-/
import Derived.Test.YtdbeekdnehojnaaJ41
import Derived.Test.YtdbeekdnehojnaaJ36
import Derived.Test.YtdbeekdnehojnaaJ35
namespace Go.Proofs.Ytdbeekdnehojnaa
open Go.ChangeShapes Go.WideShapes Go.ChangeAt Go.RowKit

theorem graphPlays_law (H : Type) (enc : TypeId × Value → H) (W : World) (base : Nat) (args : Array Value) (ds : List (DataW H)) (p : List MemPlace)
    (hval : ∀ (j : Nat) t v, Try.f8.params[j]? = some t → args[j]? = some v → Value.okWide Try.prog W .any base t v)
    (hA0 : DataW.TrodAll enc Try.prog W 0 (fun _ => true) true Try.f8.params.toList args.toList ds p) :
    Law 8 args W ∧ ∃ (d0 : DataW H) (d1 : DataW H) (d2 : DataW H), ds = [d0, d1, d2] := by
  have hA := hA0
  rw [Try.params8] at hA hval
  obtain ⟨v0, v1, v2, d0, d1, d2, p0, p1, p2, rfl, rfl, rfl, h0, h1, h2⟩ := trodAll_three hA
  obtain ⟨a0, rfl, rfl, rfl⟩ := open_bool Try.underlying4 (hval 0 4 v0 rfl rfl) h0
  obtain ⟨x1, n1, wf1⟩ := open_nums Try.underlying27 Try.underlying31 (by kernel_rfl) (hval 1 27 v1 rfl rfl) h1
  obtain ⟨l2, n2, g2⟩ := open_scriptO (hval 2 22 v2 rfl rfl) h2
  exact ⟨graphPlays a0 x1 l2 v1 v2 W n1 n2 g2, _, _, _, rfl⟩

set_option maxRecDepth 100000 in
theorem graphPlays_lifted (os : Os) (started : os.Started) (H : Type) (enc : TypeId × Value → H) :
    ReturnsInHanded {} Try.checked os 8 .any (Rows.graphPlaysSpec.pre6 enc Try.prog Try.f8 Rows.graphPlaysRow.domain false) (Rows.graphPlaysSpec.post enc Try.prog Try.f8 false true false false) := by
  refine returnsInHanded_of_change (C := Try.checked) own started (by kernel_rfl) Try.func8
    (ChangeSpec.witness6 (enc := enc) (C := Try.checked) false ⟨#[], #[.bool false, .slice none 0 0, .slice none 0 0], []⟩ 8 (by kernel_rfl) (by kernel_rfl) (by kernel_rfl) (by kernel_rfl)) ?_
  intro W base args ds gs before hval hW _ _
  have hW' := hW
  obtain ⟨p, q, hA, hV, rfl, _, _⟩ := hW
  obtain ⟨rfl, rfl⟩ := trodVars_none hV
  obtain ⟨hlaw, d0, d1, d2, rfl⟩ := graphPlays_law H enc W base args ds p hval hA
  refine hlaw.mono fun e W' ⟨he, hb⟩ => ⟨_, he, ?_⟩
  exact law_post (f := Try.f8) (s := Rows.graphPlaysSpec) hW' rfl rfl rfl rfl rfl (by rw [Try.params8]; decide +kernel) hb

theorem graphPlays_holds : Rows.GraphPlaysSaid :=
  OpenClaim.holds_of_wide 8 Try.f8 rfl rfl rfl rfl rfl rfl rfl ⟨rfl, rfl, rfl, rfl, rfl⟩ rfl rfl rfl rfl rfl (by kernel_rfl) Try.func8 (by kernel_rfl)
    (of_decide_eq_true (by kernel_rfl)) (by unfold Func.isWrapper; first | (rw [if_pos (by decide +kernel)]; kernel_rfl) | (rw [if_neg (by decide +kernel)]; exact ⟨rfl, rfl⟩))
    (fun os started H enc _ => graphPlays_lifted os started H enc)

end Go.Proofs.Ytdbeekdnehojnaa
