/-
  GatherPlays: for every script of questions and answers, of any nodes, what is to be sent is the answer of the document; notes come back untouched, and are not kept; a nil one too: for every script, with no condition.
-/
import Derived.Test.YtfmlhdikagogcaaDoorJ48
import Derived.Test.YtfmlhdikagogcaaDoorJ46
import Derived.Test.YtfmlhdikagogcaaDoorJ09
import Derived.Test.YtfmlhdikagogcaaDoorCards
import Derived.SevenTiedAt
namespace Go.Proofs.YtfmlhdikagogcaaDoor
open Go.ChangeShapes Go.WideShapes Go.ChangeAt Go.RowKit
set_option maxRecDepth 20000

theorem gatherPlays_law (H : Type) (enc : TypeId × Value → H) (W : World) (base : Nat) (args : Array Value) (ds : List (DataW H)) (p : List MemPlace)
    (hval : ∀ (j : Nat) t v, Tryd.f8.params[j]? = some t → args[j]? = some v → Value.okWide Tryd.prog W .any base t v)
    (hA0 : DataW.TrodAll enc Tryd.prog W 0 (fun _ => true) true Tryd.f8.params.toList args.toList ds p) (ht : Tab W) :
    Law 8 args W ∧ ∃ (d0 : DataW H) (d1 : DataW H) (d2 : DataW H) (d3 : DataW H) (d4 : DataW H), ds = [d0, d1, d2, d3, d4] := by
  have hA := hA0
  rw [Tryd.params8] at hA hval
  obtain ⟨v0, vs0, d0, ds0, p0, q0, hargs, rfl, rfl, h0, r0⟩ := trodAll_cons hA
  obtain ⟨v1, vs1, d1, ds1, p1, q1, rfl, rfl, rfl, h1, r1⟩ := trodAll_cons r0
  obtain ⟨v2, vs2, d2, ds2, p2, q2, rfl, rfl, rfl, h2, r2⟩ := trodAll_cons r1
  obtain ⟨v3, vs3, d3, ds3, p3, q3, rfl, rfl, rfl, h3, r3⟩ := trodAll_cons r2
  obtain ⟨v4, vs4, d4, ds4, p4, q4, rfl, rfl, rfl, h4, r4⟩ := trodAll_cons r3
  obtain ⟨rfl, rfl, rfl⟩ := trodAll_nil r4
  obtain rfl : args = #[v0, v1, v2, v3, v4] := by cases args; simp_all
  obtain ⟨a0, rfl, rfl, rfl⟩ := open_bool Tryd.underlying4 (hval 0 4 v0 rfl rfl) h0
  obtain ⟨a1, rfl, rfl, rfl, wf1⟩ := open_int Tryd.underlying3 (hval 1 3 v1 rfl rfl) h1
  have w1 := wf1; simp [Lit.wf, IntKind.min, IntKind.max, IntKind.signed, IntKind.bits] at w1
  obtain ⟨a2, rfl, rfl, rfl, wf2⟩ := open_int Tryd.underlying3 (hval 2 3 v2 rfl rfl) h2
  have w2 := wf2; simp [Lit.wf, IntKind.min, IntKind.max, IntKind.signed, IntKind.bits] at w2
  obtain ⟨a3, rfl, rfl, rfl, wf3⟩ := open_int Tryd.underlying29 (hval 3 29 v3 rfl rfl) h3
  have w3 := wf3; simp [Lit.wf, IntKind.min, IntKind.max, IntKind.signed, IntKind.bits] at w3
  obtain ⟨l4, n4, g4⟩ := open_scriptG (hval 4 58 v4 rfl rfl) h4
  exact ⟨gatherPlays a0 a1 a2 a3 w3 l4 v4 W n4 g4 ht, _, _, _, _, _, rfl⟩

set_option maxRecDepth 100000 in
theorem gatherPlays_lifted (os : Os) (started : os.Started) (H : Type) (enc : TypeId × Value → H) :
    ReturnsInHanded {} Tryd.checked os 8 .any (fun w args => (Rows.gatherPlaysSpec.pre enc Tryd.prog Tryd.f8 Rows.gatherPlaysRow.domain false w args ∧ laidMetH Tryd.prog Rows.gatherPlaysRow.laid w) ∧ sizedMet enc Tryd.prog Tryd.f8 (OpenSpec.ofChange Rows.gatherPlaysSpec) false w args) (Rows.gatherPlaysSpec.post enc Tryd.prog Tryd.f8 false true false false) := by
  refine returnsInHanded_of_change_and (C := Tryd.checked) (X := fun w _ => laidMetH Tryd.prog Rows.gatherPlaysRow.laid w) (fun _ _ _ hh h => h.of_heap hh) own started (by kernel_rfl) Tryd.func8
    (ChangeSpec.witness_at (enc := enc) (C := Tryd.checked) (os := os) (X := fun w _ => laidMetH Tryd.prog Rows.gatherPlaysRow.laid w) false (laidWorld os) #[.bool false, .int .i64 0, .int .i64 0, .int .u64 0, .slice none 0 0] 8 rfl (by kernel_rfl) (by kernel_rfl) (by kernel_rfl) (by kernel_rfl) (by kernel_rfl) (by rw [show Rows.gatherPlaysRow.laid = [("armillary/note.sorts", Rows.laid_armillary_note_sorts)] from rfl, laid_plain]; exact laid_met os _)) ?_
  intro W base args ds gs before hval hW _ _ hL _
  have hW' := hW
  obtain ⟨p, q, hA, hV, rfl, _, _⟩ := hW
  obtain ⟨rfl, rfl⟩ := trodVars_none hV
  rw [show Rows.gatherPlaysRow.laid = [("armillary/note.sorts", Rows.laid_armillary_note_sorts)] from rfl, laid_plain] at hL
  obtain ⟨hlaw, d0, d1, d2, d3, d4, rfl⟩ := gatherPlays_law H enc W base args ds p hval hA (tab_of_laid hL)
  refine hlaw.mono fun e W' ⟨he, hb⟩ => ⟨_, he, ?_⟩
  exact law_post (f := Tryd.f8) (s := Rows.gatherPlaysSpec) hW' rfl rfl rfl rfl rfl (by rw [Tryd.params8]; decide +kernel) hb

theorem gatherPlays_row : Rows.GatherPlaysSaid :=
  OpenClaim.holds_of_wide 8 Tryd.f8 rfl rfl rfl rfl rfl rfl rfl ⟨rfl, rfl, rfl, rfl, rfl⟩ rfl rfl rfl rfl rfl (by kernel_rfl) Tryd.func8 (by kernel_rfl)
    (of_decide_eq_true (by kernel_rfl)) (by unfold Func.isWrapper; first | (rw [if_pos (by decide +kernel)]; kernel_rfl) | (rw [if_neg (by decide +kernel)]; exact ⟨rfl, rfl⟩))
    (fun os started H enc _ => gatherPlays_lifted os started H enc)

theorem gatherPlays_holds : Rows.GatherPlaysCardSaid :=
  Claim7.holds_tied_plain_at .later [] [.data] true _ false
    gatherPlays_row (fun _ h => by cases h) (by kernel_rfl) (fun _ h => by cases h) gatherPlays_row_tie rfl ⟨rfl, rfl⟩ (by kernel_rfl) rfl
    (fun f fn hf hfn => by
      obtain rfl : f = 8 := Option.some.inj ((show Tryd.prog.funcNamed "armillary/armillarylaw17.GatherPlays" = some 8 by kernel_rfl).symm.trans hf) |>.symm
      obtain rfl : fn = Tryd.f8 := (Option.some.inj (Tryd.func8.symm.trans hfn)).symm
      exact ⟨by kernel_rfl, fun j t ht => by
        have h := List.all_eq_true.1 (show (Tryd.f8.params.toList.all fun t => !Tryd.prog.wantsStandIn t) = true by kernel_rfl) t (by have := Array.mem_of_getElem? ht; simpa using this)
        exact (show Tryd.prog.wantsStandIn t = false by simpa using h)⟩)
    (by kernel_rfl)

end Go.Proofs.YtfmlhdikagogcaaDoor
