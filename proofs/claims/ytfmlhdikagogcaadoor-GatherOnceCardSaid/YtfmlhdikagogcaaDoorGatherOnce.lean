/-
  GatherOnce: every question has one answer, of each that is under way one Result comes, none of any other: for every script, with no condition.
-/
import Derived.Test.YtfmlhdikagogcaaDoorJ47
import Derived.Test.YtfmlhdikagogcaaDoorJ46
import Derived.Test.YtfmlhdikagogcaaDoorJ01
import Derived.Test.YtfmlhdikagogcaaDoorCards
import Derived.SevenTiedAt
namespace Go.Proofs.YtfmlhdikagogcaaDoor
open Go.ChangeShapes Go.WideShapes Go.ChangeAt Go.RowKit
set_option maxRecDepth 20000

theorem gatherOnce_law (H : Type) (enc : TypeId × Value → H) (W : World) (base : Nat) (args : Array Value) (ds : List (DataW H)) (p : List MemPlace)
    (hval : ∀ (j : Nat) t v, Tryd.f7.params[j]? = some t → args[j]? = some v → Value.okWide Tryd.prog W .any base t v)
    (hA0 : DataW.TrodAll enc Tryd.prog W 0 (fun _ => true) true Tryd.f7.params.toList args.toList ds p) (ht : Tab W) :
    Law 7 args W ∧ ∃ d0 : DataW H, ds = [d0] := by
  have hA := hA0
  rw [Tryd.params7] at hA hval
  obtain ⟨v0, d0, rfl, rfl, h0⟩ := trodAll_one hA
  obtain ⟨l0, n0, g0⟩ := open_scriptG (hval 0 58 v0 rfl rfl) h0
  exact ⟨gatherOnce l0 v0 W n0 g0 ht, _, rfl⟩

set_option maxRecDepth 100000 in
theorem gatherOnce_lifted (os : Os) (started : os.Started) (H : Type) (enc : TypeId × Value → H) :
    ReturnsInHanded {} Tryd.checked os 7 .any (fun w args => (Rows.gatherOnceSpec.pre enc Tryd.prog Tryd.f7 Rows.gatherOnceRow.domain false w args ∧ laidMetH Tryd.prog Rows.gatherOnceRow.laid w) ∧ sizedMet enc Tryd.prog Tryd.f7 (OpenSpec.ofChange Rows.gatherOnceSpec) false w args) (Rows.gatherOnceSpec.post enc Tryd.prog Tryd.f7 false true false false) := by
  refine returnsInHanded_of_change_and (C := Tryd.checked) (X := fun w _ => laidMetH Tryd.prog Rows.gatherOnceRow.laid w) (fun _ _ _ hh h => h.of_heap hh) own started (by kernel_rfl) Tryd.func7
    (ChangeSpec.witness_at (enc := enc) (C := Tryd.checked) (os := os) (X := fun w _ => laidMetH Tryd.prog Rows.gatherOnceRow.laid w) false (laidWorld os) #[.slice none 0 0] 8 rfl (by kernel_rfl) (by kernel_rfl) (by kernel_rfl) (by kernel_rfl) (by kernel_rfl) (by rw [show Rows.gatherOnceRow.laid = [("armillary/note.sorts", Rows.laid_armillary_note_sorts)] from rfl, laid_plain]; exact laid_met os _)) ?_
  intro W base args ds gs before hval hW _ _ hL _
  have hW' := hW
  obtain ⟨p, q, hA, hV, rfl, _, _⟩ := hW
  obtain ⟨rfl, rfl⟩ := trodVars_none hV
  rw [show Rows.gatherOnceRow.laid = [("armillary/note.sorts", Rows.laid_armillary_note_sorts)] from rfl, laid_plain] at hL
  obtain ⟨hlaw, d0, rfl⟩ := gatherOnce_law H enc W base args ds p hval hA (tab_of_laid hL)
  refine hlaw.mono fun e W' ⟨he, hb⟩ => ⟨_, he, ?_⟩
  exact law_post (f := Tryd.f7) (s := Rows.gatherOnceSpec) hW' rfl rfl rfl rfl rfl (by rw [Tryd.params7]; decide +kernel) hb

theorem gatherOnce_row : Rows.GatherOnceSaid :=
  OpenClaim.holds_of_wide 7 Tryd.f7 rfl rfl rfl rfl rfl rfl rfl ⟨rfl, rfl, rfl, rfl, rfl⟩ rfl rfl rfl rfl rfl (by kernel_rfl) Tryd.func7 (by kernel_rfl)
    (of_decide_eq_true (by kernel_rfl)) (by unfold Func.isWrapper; first | (rw [if_pos (by decide +kernel)]; kernel_rfl) | (rw [if_neg (by decide +kernel)]; exact ⟨rfl, rfl⟩))
    (fun os started H enc _ => gatherOnce_lifted os started H enc)

theorem gatherOnce_holds : Rows.GatherOnceCardSaid :=
  Claim7.holds_tied_plain_at .later [] [.data] true _ false
    gatherOnce_row (fun _ h => by cases h) (by kernel_rfl) (fun _ h => by cases h) gatherOnce_row_tie rfl ⟨rfl, rfl⟩ (by kernel_rfl) rfl
    (fun f fn hf hfn => by
      obtain rfl : f = 7 := Option.some.inj ((show Tryd.prog.funcNamed "armillary/armillarylaw17.GatherOnce" = some 7 by kernel_rfl).symm.trans hf) |>.symm
      obtain rfl : fn = Tryd.f7 := (Option.some.inj (Tryd.func7.symm.trans hfn)).symm
      exact ⟨by kernel_rfl, fun j t ht => by
        have h := List.all_eq_true.1 (show (Tryd.f7.params.toList.all fun t => !Tryd.prog.wantsStandIn t) = true by kernel_rfl) t (by have := Array.mem_of_getElem? ht; simpa using this)
        exact (show Tryd.prog.wantsStandIn t = false by simpa using h)⟩)
    (by kernel_rfl)

end Go.Proofs.YtfmlhdikagogcaaDoor
