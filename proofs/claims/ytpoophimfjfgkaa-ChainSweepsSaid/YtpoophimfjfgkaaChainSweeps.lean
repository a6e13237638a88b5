/-
  ChainSweeps: what is swept nobody needs: for every script, mark and list of stamps, with no condition.
-/
import Derived.Test.YtpoophimfjfgkaaChainU
import Derived.Test.YtpoophimfjfgkaaChainS
import Derived.Test.YtpoophimfjfgkaaSized
import Derived.Test.YtpoophimfjfgkaaClose
namespace Go.Proofs.Ytpoophimfjfgkaa
open Go.ChangeShapes Go.WideShapes Go.ChangeAt Go.RowKit

theorem chainSweeps_law (H : Type) (enc : TypeId × Value → H) (W : World) (base : Nat) (args : Array Value) (ds : List (DataW H)) (p : List MemPlace)
    (hval : ∀ (j : Nat) t v, Try.f4.params[j]? = some t → args[j]? = some v → Value.okWide Try.prog W .any base t v)
    (hA0 : DataW.TrodAll enc Try.prog W 0 (fun _ => true) true Try.f4.params.toList args.toList ds p)
    (hsz0 : (DataW.weightsEach Try.prog (Try.f4.params.toList ++ Rows.chainSweepsSpec.plain.varTypes Try.prog) (ds ++ [])).all (· ≤ reachBytes) = true) :
    Law 4 args W ∧ ∃ (d0 : DataW H) (d1 : DataW H) (d2 : DataW H), ds = [d0, d1, d2] := by
  have hA := hA0
  have hsz := hsz0
  rw [Try.params4] at hA hval hsz
  obtain ⟨v0, v1, v2, d0, d1, d2, p0, p1, p2, rfl, rfl, rfl, h0, h1, h2⟩ := trodAll_three hA
  obtain ⟨l0, n0, g0⟩ := open_script (hval 0 22 v0 rfl rfl) h0
  obtain ⟨a1, rfl, rfl, rfl, wf1⟩ := open_int Try.underlying29 (hval 1 29 v1 rfl rfl) h1
  have w1 := wf1; simp [Lit.wf, IntKind.min, IntKind.max, IntKind.signed, IntKind.bits] at w1
  obtain ⟨x2, n2, wf2, z2⟩ := open_nums_sized (bytes := 8) (j := 2) Try.underlying33 Try.underlying29 (by kernel_rfl) (by kernel_rfl) (hval 2 33 v2 rfl rfl) h2 hsz rfl rfl
  exact ⟨chainSweeps l0 g0 a1 w1.1 x2 v0 v2 W n0 n2 z2, _, _, _, rfl⟩

set_option maxRecDepth 100000 in
theorem chainSweeps_lifted (os : Os) (started : os.Started) (H : Type) (enc : TypeId × Value → H) :
    ReturnsInHanded {} Try.checked os 4 .any (Rows.chainSweepsSpec.pre6 enc Try.prog Try.f4 Rows.chainSweepsRow.domain false) (Rows.chainSweepsSpec.post enc Try.prog Try.f4 false true false false) := by
  refine returnsInHanded_of_change_sized (C := Try.checked) own started (by kernel_rfl) Try.func4
    (ChangeSpec.witness6 (enc := enc) (C := Try.checked) false ⟨#[], #[.slice none 0 0, .int .u64 0, .slice none 0 0], []⟩ 8 (by kernel_rfl) (by kernel_rfl) (by kernel_rfl) (by kernel_rfl)) ?_
  intro W base args ds gs before hval hW _ hsz _
  have hW' := hW
  obtain ⟨p, q, hA, hV, rfl, _, _⟩ := hW
  obtain ⟨rfl, rfl⟩ := trodVars_none hV
  obtain ⟨hlaw, d0, d1, d2, rfl⟩ := chainSweeps_law H enc W base args ds p hval hA hsz
  refine hlaw.mono fun e W' ⟨he, hb⟩ => ⟨_, he, ?_⟩
  exact law_post (f := Try.f4) (s := Rows.chainSweepsSpec) hW' rfl rfl rfl rfl rfl (by rw [Try.params4]; decide +kernel) hb

theorem chainSweeps_holds : Rows.ChainSweepsSaid :=
  OpenClaim.holds_of_wide 4 Try.f4 rfl rfl rfl rfl rfl rfl rfl ⟨rfl, rfl, rfl, rfl, rfl⟩ rfl rfl rfl rfl rfl (by kernel_rfl) Try.func4 (by kernel_rfl)
    (of_decide_eq_true (by kernel_rfl)) (by unfold Func.isWrapper; first | (rw [if_pos (by decide +kernel)]; kernel_rfl) | (rw [if_neg (by decide +kernel)]; exact ⟨rfl, rfl⟩))
    (fun os started H enc _ => chainSweeps_lifted os started H enc)

end Go.Proofs.Ytpoophimfjfgkaa
