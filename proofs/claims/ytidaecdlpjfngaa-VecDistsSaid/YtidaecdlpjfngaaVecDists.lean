/-
  VecDists: any two vectors are so far apart, from both sides, or aren't right: for every two slices of int32. No condition.
-/
import Derived.Test.YtidaecdlpjfngaaVecH
import Derived.Test.YtidaecdlpjfngaaClose
namespace Go.Proofs.Ytidaecdlpjfngaa
open Go.ChangeShapes Go.WideShapes Go.ChangeAt Go.RowKit

theorem vecDists_law (H : Type) (enc : TypeId × Value → H) (W : World) (base : Nat) (args : Array Value) (ds : List (DataW H)) (p : List MemPlace)
    (hval : ∀ (j : Nat) t v, Try.f7.params[j]? = some t → args[j]? = some v → Value.okWide Try.prog W .any base t v)
    (hA0 : DataW.TrodAll enc Try.prog W 0 (fun _ => true) true Try.f7.params.toList args.toList ds p) :
    Law 7 args W ∧ ∃ d0 d1, ds = [d0, d1] := by
  have hA := hA0
  rw [Try.params7] at hA hval
  obtain ⟨v0, v1, d0, d1, p0, p1, rfl, rfl, rfl, h0, h1⟩ := trodAll_two hA
  obtain ⟨xs, hx, _⟩ := open_nums Try.underlying22 Try.underlying21 (by kernel_rfl) (hval 0 22 v0 rfl rfl) h0
  obtain ⟨ys, hy, _⟩ := open_nums Try.underlying22 Try.underlying21 (by kernel_rfl) (hval 1 22 v1 rfl rfl) h1
  exact ⟨vecDists xs ys v0 v1 W hx hy, d0, d1, rfl⟩

set_option maxRecDepth 100000 in
theorem vecDists_lifted (os : Os) (started : os.Started) (H : Type) (enc : TypeId × Value → H) :
    ReturnsInHanded {} Try.checked os 7 .any (Rows.vecDistsSpec.pre6 enc Try.prog Try.f7 Rows.vecDistsRow.domain false) (Rows.vecDistsSpec.post enc Try.prog Try.f7 false true false false) := by
  refine returnsInHanded_of_change (C := Try.checked) own started (by kernel_rfl) Try.func7
    (ChangeSpec.witness6 (enc := enc) (C := Try.checked) false ⟨#[], #[.slice none 0 0, .slice none 0 0], []⟩ 8 (by kernel_rfl) (by kernel_rfl) (by kernel_rfl) (by kernel_rfl)) ?_
  intro W base args ds gs before hval hW _ _
  have hW' := hW
  obtain ⟨p, q, hA, hV, rfl, _, _⟩ := hW
  obtain ⟨rfl, rfl⟩ := trodVars_none hV
  obtain ⟨hlaw, d0, d1, rfl⟩ := vecDists_law H enc W base args ds p hval hA
  refine hlaw.mono fun e W' ⟨he, hb⟩ => ⟨_, he, ?_⟩
  exact law_post (f := Try.f7) (s := Rows.vecDistsSpec) hW' rfl rfl rfl rfl rfl (by rw [Try.params7]; decide +kernel) hb

theorem vecDists_holds : Rows.VecDistsSaid :=
  OpenClaim.holds_of_wide 7 Try.f7 rfl rfl rfl rfl rfl rfl rfl ⟨rfl, rfl, rfl, rfl, rfl⟩ rfl rfl rfl rfl rfl (by kernel_rfl) Try.func7 (by kernel_rfl)
    (of_decide_eq_true (by kernel_rfl)) (by unfold Func.isWrapper; first | (rw [if_pos (by decide +kernel)]; kernel_rfl) | (rw [if_neg (by decide +kernel)]; exact ⟨rfl, rfl⟩))
    (fun os started H enc _ => vecDists_lifted os started H enc)

end Go.Proofs.Ytidaecdlpjfngaa
