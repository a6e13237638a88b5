/-
  VecNears: of any two hits one at most is nearer, of three the order is one: for every three hits, with no condition.
-/
import Derived.Test.YtidaecdlpjfngaaVecI
import Derived.Test.YtidaecdlpjfngaaHitArg
import Derived.Test.YtidaecdlpjfngaaClose
namespace Go.Proofs.Ytidaecdlpjfngaa
open Go.ChangeShapes Go.WideShapes Go.ChangeAt Go.RowKit

theorem vecNears_law (H : Type) (enc : TypeId × Value → H) (W : World) (base : Nat) (args : Array Value) (ds : List (DataW H)) (p : List MemPlace)
    (hval : ∀ (j : Nat) t v, Try.f6.params[j]? = some t → args[j]? = some v → Value.okWide Try.prog W .any base t v)
    (hA0 : DataW.TrodAll enc Try.prog W 0 (fun _ => true) true Try.f6.params.toList args.toList ds p) :
    Law 6 args W ∧ ∃ (d0 : DataW H) (d1 : DataW H) (d2 : DataW H), ds = [d0, d1, d2] := by
  have hA := hA0
  rw [Try.params6] at hA hval
  obtain ⟨v0, v1, v2, d0, d1, d2, p0, p1, p2, rfl, rfl, rfl, h0, h1, h2⟩ := trodAll_three hA
  obtain ⟨i0, e0, u0, rfl⟩ := open_hit (hval 0 36 v0 rfl rfl) h0
  obtain ⟨i1, e1, u1, rfl⟩ := open_hit (hval 1 36 v1 rfl rfl) h1
  obtain ⟨i2, e2, u2, rfl⟩ := open_hit (hval 2 36 v2 rfl rfl) h2
  exact ⟨vecNears _ _ _ _ _ _ _ _ _ W, _, _, _, rfl⟩

set_option maxRecDepth 100000 in
theorem vecNears_lifted (os : Os) (started : os.Started) (H : Type) (enc : TypeId × Value → H) :
    ReturnsInHanded {} Try.checked os 6 .any (Rows.vecNearsSpec.pre6 enc Try.prog Try.f6 Rows.vecNearsRow.domain false) (Rows.vecNearsSpec.post enc Try.prog Try.f6 false true false false) := by
  refine returnsInHanded_of_change (C := Try.checked) own started (by kernel_rfl) Try.func6
    (ChangeSpec.witness6 (enc := enc) (C := Try.checked) false ⟨#[], #[.agg #[.int .u64 0, .int .u64 0, .slice none 0 0], .agg #[.int .u64 0, .int .u64 0, .slice none 0 0], .agg #[.int .u64 0, .int .u64 0, .slice none 0 0]], []⟩ 8 (by kernel_rfl) (by kernel_rfl) (by kernel_rfl) (by kernel_rfl)) ?_
  intro W base args ds gs before hval hW _ _
  have hW' := hW
  obtain ⟨p, q, hA, hV, rfl, _, _⟩ := hW
  obtain ⟨rfl, rfl⟩ := trodVars_none hV
  obtain ⟨hlaw, d0, d1, d2, rfl⟩ := vecNears_law H enc W base args ds p hval hA
  refine hlaw.mono fun e W' ⟨he, hb⟩ => ⟨_, he, ?_⟩
  exact law_post (f := Try.f6) (s := Rows.vecNearsSpec) hW' rfl rfl rfl rfl rfl (by rw [Try.params6]; decide +kernel) hb

theorem vecNears_holds : Rows.VecNearsSaid :=
  OpenClaim.holds_of_wide 6 Try.f6 rfl rfl rfl rfl rfl rfl rfl ⟨rfl, rfl, rfl, rfl, rfl⟩ rfl rfl rfl rfl rfl (by kernel_rfl) Try.func6 (by kernel_rfl)
    (of_decide_eq_true (by kernel_rfl)) (by unfold Func.isWrapper; first | (rw [if_pos (by decide +kernel)]; kernel_rfl) | (rw [if_neg (by decide +kernel)]; exact ⟨rfl, rfl⟩))
    (fun os started H enc _ => vecNears_lifted os started H enc)

end Go.Proofs.Ytidaecdlpjfngaa
