/-
  graph: Cut.
  graph: what is asked of no graph.
-/
import Derived.Test.YtdbeekdnehojnaaJ07
namespace Go.Proofs.Ytdbeekdnehojnaa
open Go.RowKit Go.ChangeMaps

def delE (E : List (Int × Bool)) (x : Int) : List (Int × Bool) := E.filter fun e => decide (e.1 ≠ x)
def cutQ (Q : Gr) (a b : Int) : Gr := setQ (setQ Q a fun E => delE E b) b fun E => delE E a

/-- what Cut says, and the graph then -/
def cutG (Q : Gr) (a b : Int) : Int × Gr :=
  if pairZ Q a b ≠ 0 then (pairZ Q a b, Q) else
  match Q.find? (fun q => decide (q.1 = a)) with
  | some q => match edgeO q.2.2 b with
    | none => (6, Q)
    | some true => (10, Q)
    | some false => (0, cutQ Q a b)
  | none => (6, Q)

/-- an entry is struck -/
theorem GrAt.del {w : World} {p m : Nat} {Q : Gr} (h : GrAt w p m Q) {q : Int × Nat × List (Int × Bool)} (hq : q ∈ Q) (x : Int) :
    ∃ w1, (∀ ty, (Builtin.delete_ #[45, 31] ty #[.map (some q.2.1), .int .u64 x]).run Try.prog w = .ok (.tuple #[]) w1) ∧ GrAt w1 p m (setQ Q q.1 fun E => delE E x) ∧ w.grownBy w1 (some q.2.1) := by
  obtain ⟨w1, h1, hm1, hg1, -⟩ := run_del KO64 Try.underlying45 (h.inner q hq) x
  rw [innerL_del] at hm1
  exact ⟨w1, h1, h.set hq (fun E => delE E x) hm1 hg1, hg1⟩

set_option maxRecDepth 100000 in
set_option maxHeartbeats 4000000 in
theorem gCut (w : World) (p m : Nat) (Q : Gr) (a b : Int) (h : GrAt w p m Q) :
    Calls Try.prog 12 #[.pointer (some ⟨p, 0, none⟩), .int .u64 a, .int .u64 b] w fun e w' =>
      e = .returned (.int .i64 (cutG Q a b).1) ∧ GrAt w' p m (cutG Q a b).2 ∧ Mod (BlocksOf Q) w w' := by
  have cP := gPair w p m Q a b h
  have hc := h.get
  by_cases hp : pairZ Q a b = 0
  · obtain ⟨hab, ha, hb⟩ := pair_ok hp
    obtain ⟨qa, hqa, rfl, hfa, -⟩ := getK_outer_some ha
    obtain ⟨qb, hqb, rfl, hfb, -⟩ := getK_outer_some hb
    have hl := h.look hqa
    have he := h.edge hqa qb.1 true
    simp only [if_true] at he
    rw [hp] at cP
    unfold cutG
    rw [if_neg (by simp [hp]), hfa]
    simp only
    cases hx : edgeO qa.2.2 qb.1 with
    | none =>
      rw [hx] at he
      simp only [Option.getD_none, Option.isSome_none] at he
      have HH := Lib.hid h
      clear h
      go_enter Try.func12, Try.ntmps12
      go_wp2_with (first | (go_at_call 31; refine cP.mono ?_; rintro e w' ⟨rfl, rfl⟩))
      go_ret
      exact ⟨rfl, HH.out, Mod.refl _ _⟩
    | some nd =>
      rw [hx] at he
      simp only [Option.getD_some, Option.isSome_some] at he
      cases nd with
      | true =>
        have HH := Lib.hid h
        clear h
        go_enter Try.func12, Try.ntmps12
        go_wp2_with (first | (go_at_call 31; refine cP.mono ?_; rintro e w' ⟨rfl, rfl⟩))
        go_ret
        exact ⟨rfl, HH.out, Mod.refl _ _⟩
      | false =>
        obtain ⟨w1, d1, G1, g1⟩ := h.del hqa qb.1
        have hqb1 := mem_set_ne (f := fun E => delE E qb.1) hqb (Ne.symm hab)
        obtain ⟨w2, d2, G2, g2⟩ := G1.del hqb1 qa.1
        have hc1 := G1.get
        have hl1 := G1.look hqb1
        have GG := Lib.hid G2
        have MM := Lib.hid (show Mod (BlocksOf Q) w w2 from ⟨g2.os.trans g1.os, g2.tape.trans g1.tape, g2.output.trans g1.output, Nat.le_trans g1.size g2.size, fun k hk hn => by
          have := g1.size
          exact (g2.block k (by omega) (fun e => hn ⟨qb, hqb, by cases e; rfl⟩)).trans (g1.block k hk (fun e => hn ⟨qa, hqa, by cases e; rfl⟩))⟩)
        clear h G1 G2 g1 g2 hqb1
        go_enter Try.func12, Try.ntmps12
        go_wp2_with (first | (go_at_call 31; refine cP.mono ?_; rintro e w' ⟨rfl, rfl⟩))
        go_ret
        exact ⟨rfl, GG.out, MM.out⟩
  · unfold cutG
    rw [if_pos (by simpa using hp)]
    generalize pairZ Q a b = z at hp cP ⊢
    have hz : decide (z = 0) = false := by simpa using hp
    have HH := Lib.hid h
    clear h
    go_enter Try.func12, Try.ntmps12
    go_wp2_with (first | (go_at_call 31; refine cP.mono ?_; rintro e w' ⟨rfl, rfl⟩))
    go_ret
    exact ⟨rfl, HH.out, Mod.refl _ _⟩

end Go.Proofs.Ytdbeekdnehojnaa

namespace Go.Proofs.Ytdbeekdnehojnaa
open Go.RowKit Go.ChangeMaps

theorem gBind_nil (w : World) (a b : Int) :
    Calls Try.prog 16 #[.pointer none, .int .u64 a, .int .u64 b] w fun e w' => e = .returned (.int .i64 6) ∧ w' = w := by
  go_enter Try.func16, Try.ntmps16
  go_wp2_with (first | (go_at_call 31; refine (gPair_nil _ _ _).mono ?_; rintro e w' ⟨rfl, rfl⟩))
  go_ret
  exact ⟨rfl, rfl⟩

theorem gLink_nil (w : World) (a b : Int) :
    Calls Try.prog 27 #[.pointer none, .int .u64 a, .int .u64 b] w fun e w' => e = .returned (.int .i64 6) ∧ w' = w := by
  go_enter Try.func27, Try.ntmps27
  go_wp2_with (first | (go_at_call 31; refine (gPair_nil _ _ _).mono ?_; rintro e w' ⟨rfl, rfl⟩))
  go_ret
  exact ⟨rfl, rfl⟩

theorem gCut_nil (w : World) (a b : Int) :
    Calls Try.prog 12 #[.pointer none, .int .u64 a, .int .u64 b] w fun e w' => e = .returned (.int .i64 6) ∧ w' = w := by
  go_enter Try.func12, Try.ntmps12
  go_wp2_with (first | (go_at_call 31; refine (gPair_nil _ _ _).mono ?_; rintro e w' ⟨rfl, rfl⟩))
  go_ret
  exact ⟨rfl, rfl⟩

theorem gNear_nil (w : World) (a : Int) :
    Calls Try.prog 21 #[.pointer none, .int .u64 a] w fun e w' => e = .returned (.slice none 0 0) ∧ w' = w := by
  go_enter Try.func21, Try.ntmps21
  go_wp2_with fail
  go_ret
  exact ⟨rfl, rfl⟩

theorem gKeys_nil (w : World) :
    Calls Try.prog 17 #[.pointer none] w fun e w' => e = .returned (.slice none 0 0) ∧ w' = w := by
  go_enter Try.func17, Try.ntmps17
  go_wp2_with fail
  go_ret
  exact ⟨rfl, rfl⟩

theorem gLen_nil (w : World) :
    Calls Try.prog 20 #[.pointer none] w fun e w' => e = .returned (.int .i64 0) ∧ w' = w := by
  go_enter Try.func20, Try.ntmps20
  go_wp2_with fail
  go_ret
  exact ⟨rfl, rfl⟩

theorem gLen (w : World) (p m : Nat) (Q : Gr) (h : GrAt w p m Q) :
    Calls Try.prog 20 #[.pointer (some ⟨p, 0, none⟩)] w fun e w' => e = .returned (.int .i64 Q.length) ∧ w' = w := by
  have hc := h.get
  have hl := fun ty => run_len (P := Try.prog) Try.underlying55 h.outer ty
  have hQ : (outerL Q).length = Q.length := by simp [outerL]
  rw [hQ] at hl
  clear h
  go_enter Try.func20, Try.ntmps20
  go_wp2_with fail
  go_ret
  exact ⟨rfl, rfl⟩

end Go.Proofs.Ytdbeekdnehojnaa
