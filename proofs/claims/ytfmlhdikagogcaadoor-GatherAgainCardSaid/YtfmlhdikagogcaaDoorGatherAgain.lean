/-
  GatherAgain: a question that is asked again goes once more to those that have not answered, with the same number and stamp, and to nobody else: for every note, stamps and shard, with no condition.
-/
import Derived.Test.YtfmlhdikagogcaaDoorJ48
import Derived.Test.YtfmlhdikagogcaaDoorJ11
import Derived.Test.YtfmlhdikagogcaaDoorJ01
import Derived.Test.YtfmlhdikagogcaaDoorCards
import Derived.SevenTiedAt
namespace Go.Proofs.YtfmlhdikagogcaaDoor
open Go.ChangeShapes Go.WideShapes Go.ChangeAt Go.RowKit
set_option maxRecDepth 20000

theorem gatherAgain_law (H : Type) (enc : TypeId × Value → H) (W : World) (base : Nat) (args : Array Value) (ds : List (DataW H)) (p : List MemPlace)
    (hval : ∀ (j : Nat) t v, Tryd.f6.params[j]? = some t → args[j]? = some v → Value.okWide Tryd.prog W .any base t v)
    (hA0 : DataW.TrodAll enc Tryd.prog W 0 (fun _ => true) true Tryd.f6.params.toList args.toList ds p) (ht : Tab W) :
    Law 6 args W ∧ ∃ (d0 : DataW H) (d1 : DataW H) (d2 : DataW H) (d3 : DataW H), ds = [d0, d1, d2, d3] := by
  have hA := hA0
  rw [Tryd.params6] at hA hval
  obtain ⟨v0, v1, v2, v3, d0, d1, d2, d3, p0, p1, p2, p3, rfl, rfl, rfl, h0, h1, h2, h3⟩ := trodAll_four hA
  obtain ⟨n0, vp0, vo0, vv0, vh0, rfl, hv0, hf0⟩ := open_note (hval 0 53 v0 rfl rfl) h0
  obtain ⟨a1, rfl, rfl, rfl, wf1⟩ := open_int Tryd.underlying29 (hval 1 29 v1 rfl rfl) h1
  have w1 := wf1; simp [Lit.wf, IntKind.min, IntKind.max, IntKind.signed, IntKind.bits] at w1
  obtain ⟨a2, rfl, rfl, rfl, wf2⟩ := open_int Tryd.underlying29 (hval 2 29 v2 rfl rfl) h2
  have w2 := wf2; simp [Lit.wf, IntKind.min, IntKind.max, IntKind.signed, IntKind.bits] at w2
  obtain ⟨a3, rfl, rfl, rfl, wf3⟩ := open_int Tryd.underlying5 (hval 3 5 v3 rfl rfl) h3
  have w3 := wf3; simp [Lit.wf, IntKind.min, IntKind.max, IntKind.signed, IntKind.bits] at w3
  exact ⟨gatherAgain n0 vp0 vo0 vv0 vh0 a1 a2 a3 W w1 w2 w3 hv0 hf0 ht, _, _, _, _, rfl⟩

set_option maxRecDepth 100000 in
theorem gatherAgain_lifted (os : Os) (started : os.Started) (H : Type) (enc : TypeId × Value → H) :
    ReturnsInHanded {} Tryd.checked os 6 .any (fun w args => (Rows.gatherAgainSpec.pre enc Tryd.prog Tryd.f6 Rows.gatherAgainRow.domain false w args ∧ laidMetH Tryd.prog Rows.gatherAgainRow.laid w) ∧ sizedMet enc Tryd.prog Tryd.f6 (OpenSpec.ofChange Rows.gatherAgainSpec) false w args) (Rows.gatherAgainSpec.post enc Tryd.prog Tryd.f6 false true false false) := by
  refine returnsInHanded_of_change_and (C := Tryd.checked) (X := fun w _ => laidMetH Tryd.prog Rows.gatherAgainRow.laid w) (fun _ _ _ hh h => h.of_heap hh) own started (by kernel_rfl) Tryd.func6
    (ChangeSpec.witness_at (enc := enc) (C := Tryd.checked) (os := os) (X := fun w _ => laidMetH Tryd.prog Rows.gatherAgainRow.laid w) false (laidWorld os) #[.agg #[.int .u8 0, .int .u64 0, .int .u64 0, .int .u64 0, .int .u64 0, .int .u64 0, .int .u64 0, .int .u64 0, .int .i64 0, .int .i64 0, .int .i64 0, .int .i64 0, .slice none 0 0, .slice none 0 0, .slice none 0 0, .slice none 0 0], .int .u64 0, .int .u64 0, .int .u8 0] 8 rfl (by kernel_rfl) (by kernel_rfl) (by kernel_rfl) (by kernel_rfl) (by kernel_rfl) (by rw [show Rows.gatherAgainRow.laid = [("armillary/note.sorts", Rows.laid_armillary_note_sorts)] from rfl, laid_plain]; exact laid_met os _)) ?_
  intro W base args ds gs before hval hW _ _ hL _
  have hW' := hW
  obtain ⟨p, q, hA, hV, rfl, _, _⟩ := hW
  obtain ⟨rfl, rfl⟩ := trodVars_none hV
  rw [show Rows.gatherAgainRow.laid = [("armillary/note.sorts", Rows.laid_armillary_note_sorts)] from rfl, laid_plain] at hL
  obtain ⟨hlaw, d0, d1, d2, d3, rfl⟩ := gatherAgain_law H enc W base args ds p hval hA (tab_of_laid hL)
  refine hlaw.mono fun e W' ⟨he, hb⟩ => ⟨_, he, ?_⟩
  exact law_post (f := Tryd.f6) (s := Rows.gatherAgainSpec) hW' rfl rfl rfl rfl rfl (by rw [Tryd.params6]; decide +kernel) hb

theorem gatherAgain_row : Rows.GatherAgainSaid :=
  OpenClaim.holds_of_wide 6 Tryd.f6 rfl rfl rfl rfl rfl rfl rfl ⟨rfl, rfl, rfl, rfl, rfl⟩ rfl rfl rfl rfl rfl (by kernel_rfl) Tryd.func6 (by kernel_rfl)
    (of_decide_eq_true (by kernel_rfl)) (by unfold Func.isWrapper; first | (rw [if_pos (by decide +kernel)]; kernel_rfl) | (rw [if_neg (by decide +kernel)]; exact ⟨rfl, rfl⟩))
    (fun os started H enc _ => gatherAgain_lifted os started H enc)

theorem gatherAgain_holds : Rows.GatherAgainCardSaid :=
  Claim7.holds_tied_plain_at .later [] [.data] true _ false
    gatherAgain_row (fun _ h => by cases h) (by kernel_rfl) (fun _ h => by cases h) gatherAgain_row_tie rfl ⟨rfl, rfl⟩ (by kernel_rfl) rfl
    (fun f fn hf hfn => by
      obtain rfl : f = 6 := Option.some.inj ((show Tryd.prog.funcNamed "armillary/armillarylaw17.GatherAgain" = some 6 by kernel_rfl).symm.trans hf) |>.symm
      obtain rfl : fn = Tryd.f6 := (Option.some.inj (Tryd.func6.symm.trans hfn)).symm
      exact ⟨by kernel_rfl, fun j t ht => by
        have h := List.all_eq_true.1 (show (Tryd.f6.params.toList.all fun t => !Tryd.prog.wantsStandIn t) = true by kernel_rfl) t (by have := Array.mem_of_getElem? ht; simpa using this)
        exact (show Tryd.prog.wantsStandIn t = false by simpa using h)⟩)
    (by kernel_rfl)

end Go.Proofs.YtfmlhdikagogcaaDoor
