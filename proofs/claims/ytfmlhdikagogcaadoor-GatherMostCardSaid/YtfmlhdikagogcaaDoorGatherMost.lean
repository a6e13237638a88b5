/-
  GatherMost: so many questions are under way, and no more; when one is over one more can be: for every number, with no condition.
-/
import Derived.Test.YtfmlhdikagogcaaDoorJ49
import Derived.Test.YtfmlhdikagogcaaDoorJ02
import Derived.Test.YtfmlhdikagogcaaDoorCards
import Derived.SevenTiedAt
namespace Go.Proofs.YtfmlhdikagogcaaDoor
open Go.ChangeShapes Go.WideShapes Go.ChangeAt Go.RowKit
set_option maxRecDepth 20000

theorem gatherMost_law (H : Type) (enc : TypeId × Value → H) (W : World) (base : Nat) (args : Array Value) (ds : List (DataW H)) (p : List MemPlace)
    (hval : ∀ (j : Nat) t v, Tryd.f4.params[j]? = some t → args[j]? = some v → Value.okWide Tryd.prog W .any base t v)
    (hA0 : DataW.TrodAll enc Tryd.prog W 0 (fun _ => true) true Tryd.f4.params.toList args.toList ds p) (ht : Tab W) :
    Law 4 args W ∧ ∃ d0 : DataW H, ds = [d0] := by
  have hA := hA0
  rw [Tryd.params4] at hA hval
  obtain ⟨v0, d0, rfl, rfl, h0⟩ := trodAll_one hA
  obtain ⟨a0, rfl, rfl, rfl, wf0⟩ := open_int Tryd.underlying5 (hval 0 5 v0 rfl rfl) h0
  have w0 := wf0; simp [Lit.wf, IntKind.min, IntKind.max, IntKind.signed, IntKind.bits] at w0
  exact ⟨gatherMost a0 w0 W ht, _, rfl⟩

set_option maxRecDepth 100000 in
theorem gatherMost_lifted (os : Os) (started : os.Started) (H : Type) (enc : TypeId × Value → H) :
    ReturnsInHanded {} Tryd.checked os 4 .any (fun w args => (Rows.gatherMostSpec.pre enc Tryd.prog Tryd.f4 Rows.gatherMostRow.domain false w args ∧ laidMetH Tryd.prog Rows.gatherMostRow.laid w) ∧ sizedMet enc Tryd.prog Tryd.f4 (OpenSpec.ofChange Rows.gatherMostSpec) false w args) (Rows.gatherMostSpec.post enc Tryd.prog Tryd.f4 false true false false) := by
  refine returnsInHanded_of_change_and (C := Tryd.checked) (X := fun w _ => laidMetH Tryd.prog Rows.gatherMostRow.laid w) (fun _ _ _ hh h => h.of_heap hh) own started (by kernel_rfl) Tryd.func4
    (ChangeSpec.witness_at (enc := enc) (C := Tryd.checked) (os := os) (X := fun w _ => laidMetH Tryd.prog Rows.gatherMostRow.laid w) false (laidWorld os) #[.int .u8 0] 8 rfl (by kernel_rfl) (by kernel_rfl) (by kernel_rfl) (by kernel_rfl) (by kernel_rfl) (by rw [show Rows.gatherMostRow.laid = [("armillary/note.sorts", Rows.laid_armillary_note_sorts)] from rfl, laid_plain]; exact laid_met os _)) ?_
  intro W base args ds gs before hval hW _ _ hL _
  have hW' := hW
  obtain ⟨p, q, hA, hV, rfl, _, _⟩ := hW
  obtain ⟨rfl, rfl⟩ := trodVars_none hV
  rw [show Rows.gatherMostRow.laid = [("armillary/note.sorts", Rows.laid_armillary_note_sorts)] from rfl, laid_plain] at hL
  obtain ⟨hlaw, d0, rfl⟩ := gatherMost_law H enc W base args ds p hval hA (tab_of_laid hL)
  refine hlaw.mono fun e W' ⟨he, hb⟩ => ⟨_, he, ?_⟩
  exact law_post (f := Tryd.f4) (s := Rows.gatherMostSpec) hW' rfl rfl rfl rfl rfl (by rw [Tryd.params4]; decide +kernel) hb

theorem gatherMost_row : Rows.GatherMostSaid :=
  OpenClaim.holds_of_wide 4 Tryd.f4 rfl rfl rfl rfl rfl rfl rfl ⟨rfl, rfl, rfl, rfl, rfl⟩ rfl rfl rfl rfl rfl (by kernel_rfl) Tryd.func4 (by kernel_rfl)
    (of_decide_eq_true (by kernel_rfl)) (by unfold Func.isWrapper; first | (rw [if_pos (by decide +kernel)]; kernel_rfl) | (rw [if_neg (by decide +kernel)]; exact ⟨rfl, rfl⟩))
    (fun os started H enc _ => gatherMost_lifted os started H enc)

theorem gatherMost_holds : Rows.GatherMostCardSaid :=
  Claim7.holds_tied_plain_at .later [] [.data] true _ false
    gatherMost_row (fun _ h => by cases h) (by kernel_rfl) (fun _ h => by cases h) gatherMost_row_tie rfl ⟨rfl, rfl⟩ (by kernel_rfl) rfl
    (fun f fn hf hfn => by
      obtain rfl : f = 4 := Option.some.inj ((show Tryd.prog.funcNamed "armillary/armillarylaw17.GatherMost" = some 4 by kernel_rfl).symm.trans hf) |>.symm
      obtain rfl : fn = Tryd.f4 := (Option.some.inj (Tryd.func4.symm.trans hfn)).symm
      exact ⟨by kernel_rfl, fun j t ht => by
        have h := List.all_eq_true.1 (show (Tryd.f4.params.toList.all fun t => !Tryd.prog.wantsStandIn t) = true by kernel_rfl) t (by have := Array.mem_of_getElem? ht; simpa using this)
        exact (show Tryd.prog.wantsStandIn t = false by simpa using h)⟩)
    (by kernel_rfl)

end Go.Proofs.YtfmlhdikagogcaaDoor
