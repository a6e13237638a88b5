/-
  graph: Bind, Link, Cut.
  graph: Link.
-/
import Derived.Test.YtdbeekdnehojnaaJ06
namespace Go.Proofs.Ytdbeekdnehojnaa
open Go.RowKit Go.ChangeMaps

/-- the edge from q to x -/
def edgeO (E : List (Int × Bool)) (x : Int) : Option Bool := (E.find? fun e => decide (e.1 = x)).map (·.2)

theorem getK_inner (E : List (Int × Bool)) (x : Int) : getK (innerL E) x = (edgeO E x).map Value.bool := by
  unfold getK innerL edgeO
  rw [List.find?_map, Option.map_map, Option.map_map]
  rfl

theorem GrAt.edge {w : World} {p m : Nat} {Q : Gr} (h : GrAt w p m Q) {q : Int × Nat × List (Int × Bool)} (hq : q ∈ Q) (x : Int) (c : Bool) :
    (Instr.lookup 45 (.map (some q.2.1)) (.int .u64 x) c).run Try.prog w = .ok (if c then .tuple #[.bool ((edgeO q.2.2 x).getD false), .bool (edgeO q.2.2 x).isSome] else .bool ((edgeO q.2.2 x).getD false)) w := by
  have hl := run_look KO64 Try.underlying45 (h.inner q hq) (zeroB w) x c
  rw [getK_inner] at hl
  have e1 : ((edgeO q.2.2 x).map Value.bool).getD (.bool false) = .bool ((edgeO q.2.2 x).getD false) := by cases edgeO q.2.2 x <;> rfl
  rw [e1, Option.isSome_map] at hl
  exact hl

theorem pair_ok {Q : Gr} {a b : Int} (h : pairZ Q a b = 0) : a ≠ b ∧ hasB Q a = true ∧ hasB Q b = true := by
  unfold pairZ at h
  split at h
  · cases h
  · next hab =>
    split at h
    · next h1 =>
      rw [Bool.and_eq_true] at h1
      exact ⟨hab, h1⟩
    · cases h

/-- the blocks of the nodes' maps -/
def BlocksOf (Q : Gr) (j : Nat) : Prop := ∃ q ∈ Q, j = q.2.1

/-- what Bind, Link say, and the graph then -/
def bindG (Q : Gr) (a b : Int) : Int × Gr :=
  if pairZ Q a b ≠ 0 then (pairZ Q a b, Q) else
  match Q.find? (fun q => decide (q.1 = a)) with
  | some q => if (edgeO q.2.2 b).getD false then (7, Q) else (0, joinQ Q a b true)
  | none => (6, Q)

def linkG (Q : Gr) (a b : Int) : Int × Gr :=
  if pairZ Q a b ≠ 0 then (pairZ Q a b, Q) else
  match Q.find? (fun q => decide (q.1 = a)) with
  | some q => if (edgeO q.2.2 b).isSome then (7, Q) else (0, joinQ Q a b false)
  | none => (6, Q)

set_option maxRecDepth 100000 in
set_option maxHeartbeats 4000000 in
theorem gBind (w : World) (p m : Nat) (Q : Gr) (a b : Int) (h : GrAt w p m Q) :
    Calls Try.prog 16 #[.pointer (some ⟨p, 0, none⟩), .int .u64 a, .int .u64 b] w fun e w' =>
      e = .returned (.int .i64 (bindG Q a b).1) ∧ GrAt w' p m (bindG Q a b).2 ∧ Mod (BlocksOf Q) w w' := by
  have cP := gPair w p m Q a b h
  have hc := h.get
  by_cases hp : pairZ Q a b = 0
  · obtain ⟨hab, ha, hb⟩ := pair_ok hp
    obtain ⟨qa, hqa, rfl, hfa, -⟩ := getK_outer_some ha
    obtain ⟨qb, hqb, rfl, hfb, -⟩ := getK_outer_some hb
    have hl := h.look hqa
    have he := h.edge hqa qb.1 false
    simp only [Bool.false_eq_true, if_false] at he
    rw [hp] at cP
    unfold bindG
    rw [if_neg (by simp [hp]), hfa]
    simp only
    cases hx : (edgeO qa.2.2 qb.1).getD false with
    | true =>
      rw [hx] at he
      simp only [if_true]
      have HH := Lib.hid h
      clear h
      go_enter Try.func16, Try.ntmps16
      go_wp2_with (first | (go_at_call 31; refine cP.mono ?_; rintro e w' ⟨rfl, rfl⟩))
      go_ret
      exact ⟨rfl, HH.out, Mod.refl _ _⟩
    | false =>
      rw [hx] at he
      simp only [Bool.false_eq_true, if_false]
      have cJ := gJoin w p m Q qa qb true h hqa hqb hab
      clear h
      go_enter Try.func16, Try.ntmps16
      go_wp2_with (first
        | (go_at_call 31; refine cP.mono ?_; rintro e w' ⟨rfl, rfl⟩)
        | (go_at_call 36; refine cJ.mono ?_; rintro e w2 ⟨rfl, hG, hM⟩; have HG := Lib.hid hG; have HM := Lib.hid hM; clear hG hM))
      go_ret
      exact ⟨rfl, HG.out, HM.out.mono (fun k _ hk => hk.elim (fun e => ⟨qa, hqa, e⟩) (fun e => ⟨qb, hqb, e⟩))⟩
  · unfold bindG
    rw [if_pos (by simpa using hp)]
    generalize pairZ Q a b = z at hp cP ⊢
    have hz : decide (z = 0) = false := by simpa using hp
    have HH := Lib.hid h
    clear h
    go_enter Try.func16, Try.ntmps16
    go_wp2_with (first | (go_at_call 31; refine cP.mono ?_; rintro e w' ⟨rfl, rfl⟩))
    go_ret
    exact ⟨rfl, HH.out, Mod.refl _ _⟩

end Go.Proofs.Ytdbeekdnehojnaa

namespace Go.Proofs.Ytdbeekdnehojnaa
open Go.RowKit Go.ChangeMaps

set_option maxRecDepth 100000 in
set_option maxHeartbeats 4000000 in
theorem gLink (w : World) (p m : Nat) (Q : Gr) (a b : Int) (h : GrAt w p m Q) :
    Calls Try.prog 27 #[.pointer (some ⟨p, 0, none⟩), .int .u64 a, .int .u64 b] w fun e w' =>
      e = .returned (.int .i64 (linkG Q a b).1) ∧ GrAt w' p m (linkG Q a b).2 ∧ Mod (BlocksOf Q) w w' := by
  have cP := gPair w p m Q a b h
  have hc := h.get
  by_cases hp : pairZ Q a b = 0
  · obtain ⟨hab, ha, hb⟩ := pair_ok hp
    obtain ⟨qa, hqa, rfl, hfa, -⟩ := getK_outer_some ha
    obtain ⟨qb, hqb, rfl, hfb, -⟩ := getK_outer_some hb
    have hl := h.look hqa
    have he := h.edge hqa qb.1 true
    simp only [if_true] at he
    rw [hp] at cP
    unfold linkG
    rw [if_neg (by simp [hp]), hfa]
    simp only
    generalize (edgeO qa.2.2 qb.1).getD false = nd at he
    cases hx : (edgeO qa.2.2 qb.1).isSome with
    | true =>
      rw [hx] at he
      simp only [if_true]
      have HH := Lib.hid h
      clear h
      go_enter Try.func27, Try.ntmps27
      go_wp2_with (first | (go_at_call 31; refine cP.mono ?_; rintro e w' ⟨rfl, rfl⟩))
      go_ret
      exact ⟨rfl, HH.out, Mod.refl _ _⟩
    | false =>
      rw [hx] at he
      simp only [Bool.false_eq_true, if_false]
      have cJ := gJoin w p m Q qa qb false h hqa hqb hab
      clear h
      go_enter Try.func27, Try.ntmps27
      go_wp2_with (first
        | (go_at_call 31; refine cP.mono ?_; rintro e w' ⟨rfl, rfl⟩)
        | (go_at_call 36; refine cJ.mono ?_; rintro e w2 ⟨rfl, hG, hM⟩; have HG := Lib.hid hG; have HM := Lib.hid hM; clear hG hM))
      go_ret
      exact ⟨rfl, HG.out, HM.out.mono (fun k _ hk => hk.elim (fun e => ⟨qa, hqa, e⟩) (fun e => ⟨qb, hqb, e⟩))⟩
  · unfold linkG
    rw [if_pos (by simpa using hp)]
    generalize pairZ Q a b = z at hp cP ⊢
    have hz : decide (z = 0) = false := by simpa using hp
    have HH := Lib.hid h
    clear h
    go_enter Try.func27, Try.ntmps27
    go_wp2_with (first | (go_at_call 31; refine cP.mono ?_; rintro e w' ⟨rfl, rfl⟩))
    go_ret
    exact ⟨rfl, HH.out, Mod.refl _ _⟩

end Go.Proofs.Ytdbeekdnehojnaa
