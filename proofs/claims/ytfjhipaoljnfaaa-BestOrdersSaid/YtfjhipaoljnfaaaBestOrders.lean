/-
  BestOrders: what is told is in order, each ID once, no more than may be: for every number and every slice of hits, with no condition.
-/
import Derived.Test.YtfjhipaoljnfaaaBestS
import Derived.Test.YtfjhipaoljnfaaaHitsArg
import Derived.Test.YtfjhipaoljnfaaaClose
namespace Go.Proofs.Ytfjhipaoljnfaaa
open Go.ChangeShapes Go.WideShapes Go.ChangeAt Go.RowKit

theorem bestOrders_law (H : Type) (enc : TypeId × Value → H) (W : World) (base : Nat) (args : Array Value) (ds : List (DataW H)) (p : List MemPlace)
    (hval : ∀ (j : Nat) t v, Try.f6.params[j]? = some t → args[j]? = some v → Value.okWide Try.prog W .any base t v)
    (hA0 : DataW.TrodAll enc Try.prog W 0 (fun _ => true) true Try.f6.params.toList args.toList ds p) :
    Law 6 args W ∧ ∃ (d0 : DataW H) (d1 : DataW H), ds = [d0, d1] := by
  have hA := hA0
  rw [Try.params6] at hA hval
  obtain ⟨v0, v1, d0, d1, p0, p1, rfl, rfl, rfl, h0, h1⟩ := trodAll_two hA
  obtain ⟨a0, rfl, rfl, rfl, wf0⟩ := open_int Try.underlying5 (hval 0 5 v0 rfl rfl) h0
  have w0 := wf0; simp [Lit.wf, IntKind.min, IntKind.max, IntKind.signed, IntKind.bits] at w0
  obtain ⟨l1, n1, g1⟩ := open_hits (hval 1 22 v1 rfl rfl) h1
  exact ⟨bestOrders a0 w0 l1 v1 W n1, _, _, rfl⟩

set_option maxRecDepth 100000 in
theorem bestOrders_lifted (os : Os) (started : os.Started) (H : Type) (enc : TypeId × Value → H) :
    ReturnsInHanded {} Try.checked os 6 .any (Rows.bestOrdersSpec.pre6 enc Try.prog Try.f6 Rows.bestOrdersRow.domain false) (Rows.bestOrdersSpec.post enc Try.prog Try.f6 false true false false) := by
  refine returnsInHanded_of_change (C := Try.checked) own started (by kernel_rfl) Try.func6
    (ChangeSpec.witness6 (enc := enc) (C := Try.checked) false ⟨#[], #[.int .u8 0, .slice none 0 0], []⟩ 8 (by kernel_rfl) (by kernel_rfl) (by kernel_rfl) (by kernel_rfl)) ?_
  intro W base args ds gs before hval hW _ _
  have hW' := hW
  obtain ⟨p, q, hA, hV, rfl, _, _⟩ := hW
  obtain ⟨rfl, rfl⟩ := trodVars_none hV
  obtain ⟨hlaw, d0, d1, rfl⟩ := bestOrders_law H enc W base args ds p hval hA
  refine hlaw.mono fun e W' ⟨he, hb⟩ => ⟨_, he, ?_⟩
  exact law_post (f := Try.f6) (s := Rows.bestOrdersSpec) hW' rfl rfl rfl rfl rfl (by rw [Try.params6]; decide +kernel) hb

theorem bestOrders_holds : Rows.BestOrdersSaid :=
  OpenClaim.holds_of_wide 6 Try.f6 rfl rfl rfl rfl rfl rfl rfl ⟨rfl, rfl, rfl, rfl, rfl⟩ rfl rfl rfl rfl rfl (by kernel_rfl) Try.func6 (by kernel_rfl)
    (of_decide_eq_true (by kernel_rfl)) (by unfold Func.isWrapper; first | (rw [if_pos (by decide +kernel)]; kernel_rfl) | (rw [if_neg (by decide +kernel)]; exact ⟨rfl, rfl⟩))
    (fun os started H enc _ => bestOrders_lifted os started H enc)

end Go.Proofs.Ytfjhipaoljnfaaa
