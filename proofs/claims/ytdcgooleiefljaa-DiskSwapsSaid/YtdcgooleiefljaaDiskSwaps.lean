/-
  DiskSwaps: a file has another name at once, with its firm bytes, whatever crashes behind that, and the one that had it is gone: for every bytes and every list of numbers, with no condition.
-/
import Derived.Test.YtdcgooleiefljaaJ21
import Derived.Test.YtdcgooleiefljaaJ22
namespace Go.Proofs.Ytdcgooleiefljaa
open Go.ChangeShapes Go.WideShapes Go.ChangeAt Go.RowKit

theorem diskSwaps_law (H : Type) (enc : TypeId × Value → H) (W : World) (base : Nat) (args : Array Value) (ds : List (DataW H)) (p : List MemPlace)
    (hval : ∀ (j : Nat) t v, Try.f4.params[j]? = some t → args[j]? = some v → Value.okWide Try.prog W .any base t v)
    (hA0 : DataW.TrodAll enc Try.prog W 0 (fun _ => true) true Try.f4.params.toList args.toList ds p) :
    Law 4 args W ∧ ∃ (d0 : DataW H) (d1 : DataW H) (d2 : DataW H) (d3 : DataW H), ds = [d0, d1, d2, d3] := by
  have hA := hA0
  rw [Try.params4] at hA hval
  obtain ⟨v0, v1, v2, v3, d0, d1, d2, d3, p0, p1, p2, p3, rfl, rfl, rfl, h0, h1, h2, h3⟩ := trodAll_four hA
  obtain ⟨x0, n0, wf0⟩ := open_nums Try.underlying37 Try.underlying5 (by kernel_rfl) (hval 0 37 v0 rfl rfl) h0
  obtain ⟨x1, n1, wf1⟩ := open_nums Try.underlying37 Try.underlying5 (by kernel_rfl) (hval 1 37 v1 rfl rfl) h1
  obtain ⟨x2, n2, wf2⟩ := open_nums Try.underlying37 Try.underlying5 (by kernel_rfl) (hval 2 37 v2 rfl rfl) h2
  obtain ⟨x3, n3, wf3⟩ := open_nums Try.underlying31 Try.underlying3 (by kernel_rfl) (hval 3 31 v3 rfl rfl) h3
  exact ⟨diskSwaps x0 x1 x2 x3 v0 v1 v2 v3 W n0 n1 n2 n3 (wfs_u8 wf0) (wfs_u8 wf1) (wfs_u8 wf2) (wfs_i64 wf3), _, _, _, _, rfl⟩

set_option maxRecDepth 100000 in
theorem diskSwaps_lifted (os : Os) (started : os.Started) (H : Type) (enc : TypeId × Value → H) :
    ReturnsInHanded {} Try.checked os 4 .any (Rows.diskSwapsSpec.pre6 enc Try.prog Try.f4 Rows.diskSwapsRow.domain false) (Rows.diskSwapsSpec.post enc Try.prog Try.f4 false true false false) := by
  refine returnsInHanded_of_change (C := Try.checked) own started (by kernel_rfl) Try.func4
    (ChangeSpec.witness6 (enc := enc) (C := Try.checked) false ⟨#[], #[.slice none 0 0, .slice none 0 0, .slice none 0 0, .slice none 0 0], []⟩ 8 (by kernel_rfl) (by kernel_rfl) (by kernel_rfl) (by kernel_rfl)) ?_
  intro W base args ds gs before hval hW _ _
  have hW' := hW
  obtain ⟨p, q, hA, hV, rfl, _, _⟩ := hW
  obtain ⟨rfl, rfl⟩ := trodVars_none hV
  obtain ⟨hlaw, d0, d1, d2, d3, rfl⟩ := diskSwaps_law H enc W base args ds p hval hA
  refine hlaw.mono fun e W' ⟨he, hb⟩ => ⟨_, he, ?_⟩
  exact law_post (f := Try.f4) (s := Rows.diskSwapsSpec) hW' rfl rfl rfl rfl rfl (by rw [Try.params4]; decide +kernel) hb

theorem diskSwaps_holds : Rows.DiskSwapsSaid :=
  OpenClaim.holds_of_wide 4 Try.f4 rfl rfl rfl rfl rfl rfl rfl ⟨rfl, rfl, rfl, rfl, rfl⟩ rfl rfl rfl rfl rfl (by kernel_rfl) Try.func4 (by kernel_rfl)
    (of_decide_eq_true (by kernel_rfl)) (by unfold Func.isWrapper; first | (rw [if_pos (by decide +kernel)]; kernel_rfl) | (rw [if_neg (by decide +kernel)]; exact ⟨rfl, rfl⟩))
    (fun os started H enc _ => diskSwaps_lifted os started H enc)

end Go.Proofs.Ytdcgooleiefljaa
