/-
  GatherGets: an ID is asked of its own shard alone, and told as that tells it: for every ID, number of shards, vector and code, with no condition.
-/
import Derived.Test.YtfmlhdikagogcaaDoorJ48
import Derived.Test.YtfmlhdikagogcaaDoorJ01
import Derived.Test.YtfmlhdikagogcaaDoorCards
import Derived.SevenTiedAt
namespace Go.Proofs.YtfmlhdikagogcaaDoor
open Go.ChangeShapes Go.WideShapes Go.ChangeAt Go.RowKit
set_option maxRecDepth 20000

theorem gatherGets_law (H : Type) (enc : TypeId × Value → H) (W : World) (base : Nat) (args : Array Value) (ds : List (DataW H)) (p : List MemPlace)
    (hval : ∀ (j : Nat) t v, Tryd.f5.params[j]? = some t → args[j]? = some v → Value.okWide Tryd.prog W .any base t v)
    (hA0 : DataW.TrodAll enc Tryd.prog W 0 (fun _ => true) true Tryd.f5.params.toList args.toList ds p) (ht : Tab W) :
    Law 5 args W ∧ ∃ (d0 : DataW H) (d1 : DataW H) (d2 : DataW H) (d3 : DataW H), ds = [d0, d1, d2, d3] := by
  have hA := hA0
  rw [Tryd.params5] at hA hval
  obtain ⟨v0, v1, v2, v3, d0, d1, d2, d3, p0, p1, p2, p3, rfl, rfl, rfl, h0, h1, h2, h3⟩ := trodAll_four hA
  obtain ⟨a0, rfl, rfl, rfl, wf0⟩ := open_int Tryd.underlying29 (hval 0 29 v0 rfl rfl) h0
  have w0 := wf0; simp [Lit.wf, IntKind.min, IntKind.max, IntKind.signed, IntKind.bits] at w0
  obtain ⟨a1, rfl, rfl, rfl, wf1⟩ := open_int Tryd.underlying5 (hval 1 5 v1 rfl rfl) h1
  have w1 := wf1; simp [Lit.wf, IntKind.min, IntKind.max, IntKind.signed, IntKind.bits] at w1
  obtain ⟨x2, n2, wf2⟩ := open_nums Tryd.underlying32 Tryd.underlying21 (by kernel_rfl) (hval 2 32 v2 rfl rfl) h2
  obtain ⟨a3, rfl, rfl, rfl, wf3⟩ := open_int Tryd.underlying5 (hval 3 5 v3 rfl rfl) h3
  have w3 := wf3; simp [Lit.wf, IntKind.min, IntKind.max, IntKind.signed, IntKind.bits] at w3
  exact ⟨gatherGets a0 a1 a3 x2 v2 W w0 w1 w3 n2 ht, _, _, _, _, rfl⟩

set_option maxRecDepth 100000 in
theorem gatherGets_lifted (os : Os) (started : os.Started) (H : Type) (enc : TypeId × Value → H) :
    ReturnsInHanded {} Tryd.checked os 5 .any (fun w args => (Rows.gatherGetsSpec.pre enc Tryd.prog Tryd.f5 Rows.gatherGetsRow.domain false w args ∧ laidMetH Tryd.prog Rows.gatherGetsRow.laid w) ∧ sizedMet enc Tryd.prog Tryd.f5 (OpenSpec.ofChange Rows.gatherGetsSpec) false w args) (Rows.gatherGetsSpec.post enc Tryd.prog Tryd.f5 false true false false) := by
  refine returnsInHanded_of_change_and (C := Tryd.checked) (X := fun w _ => laidMetH Tryd.prog Rows.gatherGetsRow.laid w) (fun _ _ _ hh h => h.of_heap hh) own started (by kernel_rfl) Tryd.func5
    (ChangeSpec.witness_at (enc := enc) (C := Tryd.checked) (os := os) (X := fun w _ => laidMetH Tryd.prog Rows.gatherGetsRow.laid w) false (laidWorld os) #[.int .u64 0, .int .u8 0, .slice none 0 0, .int .u8 0] 8 rfl (by kernel_rfl) (by kernel_rfl) (by kernel_rfl) (by kernel_rfl) (by kernel_rfl) (by rw [show Rows.gatherGetsRow.laid = [("armillary/note.sorts", Rows.laid_armillary_note_sorts)] from rfl, laid_plain]; exact laid_met os _)) ?_
  intro W base args ds gs before hval hW _ _ hL _
  have hW' := hW
  obtain ⟨p, q, hA, hV, rfl, _, _⟩ := hW
  obtain ⟨rfl, rfl⟩ := trodVars_none hV
  rw [show Rows.gatherGetsRow.laid = [("armillary/note.sorts", Rows.laid_armillary_note_sorts)] from rfl, laid_plain] at hL
  obtain ⟨hlaw, d0, d1, d2, d3, rfl⟩ := gatherGets_law H enc W base args ds p hval hA (tab_of_laid hL)
  refine hlaw.mono fun e W' ⟨he, hb⟩ => ⟨_, he, ?_⟩
  exact law_post (f := Tryd.f5) (s := Rows.gatherGetsSpec) hW' rfl rfl rfl rfl rfl (by rw [Tryd.params5]; decide +kernel) hb

theorem gatherGets_row : Rows.GatherGetsSaid :=
  OpenClaim.holds_of_wide 5 Tryd.f5 rfl rfl rfl rfl rfl rfl rfl ⟨rfl, rfl, rfl, rfl, rfl⟩ rfl rfl rfl rfl rfl (by kernel_rfl) Tryd.func5 (by kernel_rfl)
    (of_decide_eq_true (by kernel_rfl)) (by unfold Func.isWrapper; first | (rw [if_pos (by decide +kernel)]; kernel_rfl) | (rw [if_neg (by decide +kernel)]; exact ⟨rfl, rfl⟩))
    (fun os started H enc _ => gatherGets_lifted os started H enc)

theorem gatherGets_holds : Rows.GatherGetsCardSaid :=
  Claim7.holds_tied_plain_at .later [] [.data] true _ false
    gatherGets_row (fun _ h => by cases h) (by kernel_rfl) (fun _ h => by cases h) gatherGets_row_tie rfl ⟨rfl, rfl⟩ (by kernel_rfl) rfl
    (fun f fn hf hfn => by
      obtain rfl : f = 5 := Option.some.inj ((show Tryd.prog.funcNamed "armillary/armillarylaw17.GatherGets" = some 5 by kernel_rfl).symm.trans hf) |>.symm
      obtain rfl : fn = Tryd.f5 := (Option.some.inj (Tryd.func5.symm.trans hfn)).symm
      exact ⟨by kernel_rfl, fun j t ht => by
        have h := List.all_eq_true.1 (show (Tryd.f5.params.toList.all fun t => !Tryd.prog.wantsStandIn t) = true by kernel_rfl) t (by have := Array.mem_of_getElem? ht; simpa using this)
        exact (show Tryd.prog.wantsStandIn t = false by simpa using h)⟩)
    (by kernel_rfl)

end Go.Proofs.YtfmlhdikagogcaaDoor
