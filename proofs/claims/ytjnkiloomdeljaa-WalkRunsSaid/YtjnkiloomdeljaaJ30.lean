/-
  graph: join, an edge from both sides.
  graph: Bind, Link, Cut.
  graph: Link.
  graph: Cut.
  graph: what is asked of no graph.
-/
import Derived.Test.YtjnkiloomdeljaaJ29
import Derived.Test.YtjnkiloomdeljaaJ02
namespace Go.Proofs.Ytjnkiloomdeljaa
open Go.RowKit Go.ChangeMaps

def joinQ (Q : Gr) (a b : Int) (v : Bool) : Gr := setQ (setQ Q a fun E => putE E b v) b fun E => putE E a v

theorem GrAt.look {w : World} {p m : Nat} {Q : Gr} (h : GrAt w p m Q) {q : Int × Nat × List (Int × Bool)} (hq : q ∈ Q) :
    (Instr.lookup 91 (.map (some m)) (.int .u64 q.1) false).run Try.prog w = .ok (.map (some q.2.1)) w := by
  have hl := run_look KO64 Try.underlying91 h.outer (zeroM w) q.1 false
  have hb : hasB Q q.1 = true := List.any_eq_true.2 ⟨q, hq, by simp⟩
  obtain ⟨r, hr, he, -, hg⟩ := getK_outer_some hb
  rw [nodup_inj h.keys hr hq he] at hg
  rw [hg] at hl
  simpa using hl

/-- an entry is made ready and written -/
theorem GrAt.put {w : World} {p m : Nat} {Q : Gr} (h : GrAt w p m Q) {q : Int × Nat × List (Int × Bool)} (hq : q ∈ Q) (x : Int) (v : Bool) :
    ∃ w1 st z w2, (Instr.mapEntry 72 (.map (some q.2.1)) (.int .u64 x)).run Try.prog w = .ok (.tuple #[z, .int .i64 st]) w1 ∧
      (Instr.entryStore 72 (.map (some q.2.1)) (.int .i64 st) (.bool v)).run Try.prog w1 = .ok () w2 ∧
      (∃ f, GrAt w1 p m (setQ Q q.1 f)) ∧ GrAt w2 p m (setQ Q q.1 fun E => putE E x v) ∧ w.grownBy w2 (some q.2.1) := by
  obtain ⟨w1, st, h1, hs1, hg1, -⟩ := run_mapEntry KO64 Try.underlying72 (h.inner q hq) x zeroB
  obtain ⟨w2, h2, hm2, hg2, -⟩ := run_entryStore (P := Try.prog) (T := 72) hs1 (.bool v)
  rw [putK_putK, innerL_put] at hm2
  have hu : ∃ u, (getK (innerL q.2.2) x).getD (.bool false) = .bool u := by
    cases hg : getK (innerL q.2.2) x with
    | none => exact ⟨false, rfl⟩
    | some y =>
      simp only [getK, Option.map_eq_some_iff] at hg
      obtain ⟨e, he, rfl⟩ := hg
      have := List.mem_of_find?_eq_some he
      simp only [innerL, List.mem_map] at this
      obtain ⟨e0, -, rfl⟩ := this
      exact ⟨e0.2, rfl⟩
  obtain ⟨u, hu⟩ := hu
  have hm1 := hs1.map
  rw [hu, innerL_put] at hm1
  exact ⟨w1, st, _, w2, h1, h2, ⟨fun E => putE E x u, h.set hq (fun E => putE E x u) hm1 hg1⟩, h.set hq (fun E => putE E x v) hm2 (hg1.trans hg2), hg1.trans hg2⟩

/-- what join reads -/
def JoinS (p m : Nat) (qa qb : Int × Nat × List (Int × Bool)) (w : World) : Prop :=
  w.cell? ⟨p, 0, none⟩ = some (.map (some m)) ∧ (Instr.lookup 91 (.map (some m)) (.int .u64 qa.1) false).run Try.prog w = .ok (.map (some qa.2.1)) w ∧
    (Instr.lookup 91 (.map (some m)) (.int .u64 qb.1) false).run Try.prog w = .ok (.map (some qb.2.1)) w

/-- whoever was a node is one -/
theorem mem_set_some {Q : Gr} (a : Int) (f) {q : Int × Nat × List (Int × Bool)} (h : ∃ r ∈ Q, r.1 = q.1 ∧ r.2.1 = q.2.1) : ∃ r ∈ setQ Q a f, r.1 = q.1 ∧ r.2.1 = q.2.1 := by
  obtain ⟨r, hr, h1, h2⟩ := h
  refine ⟨_, List.mem_map_of_mem hr, ?_, ?_⟩ <;> split <;> assumption

theorem GrAt.joinS {w : World} {p m : Nat} {Q : Gr} (h : GrAt w p m Q) {qa qb : Int × Nat × List (Int × Bool)} (ha : ∃ r ∈ Q, r.1 = qa.1 ∧ r.2.1 = qa.2.1) (hb : ∃ r ∈ Q, r.1 = qb.1 ∧ r.2.1 = qb.2.1) : JoinS p m qa qb w := by
  obtain ⟨r, hr, h1, h2⟩ := ha
  obtain ⟨s, hs, h3, h4⟩ := hb
  refine ⟨h.get, ?_, ?_⟩
  · rw [← h1, ← h2]; exact h.look hr
  · rw [← h3, ← h4]; exact h.look hs

set_option maxHeartbeats 4000000 in
theorem gJoin (w : World) (p m : Nat) (Q : Gr) (qa qb : Int × Nat × List (Int × Bool)) (v : Bool) (h : GrAt w p m Q) (hqa : qa ∈ Q) (hqb : qb ∈ Q) (hab : qa.1 ≠ qb.1) :
    Calls Try.prog 41 #[.pointer (some ⟨p, 0, none⟩), .int .u64 qa.1, .int .u64 qb.1, .bool v] w fun e w' => e = .returned (.tuple #[]) ∧ GrAt w' p m (joinQ Q qa.1 qb.1 v) ∧ Mod (fun j => j = qa.2.1 ∨ j = qb.2.1) w w' := by
  obtain ⟨W, hW⟩ : ∃ W, W = w.drew := ⟨_, rfl⟩
  have h0 : GrAt W p m Q := by rw [hW]; exact h.kept (fun _ _ => rfl)
  obtain ⟨w1, st1, z1, w2, e1, s1, ⟨f1, G1⟩, G2, g2⟩ := h0.put hqa qb.1 v
  obtain ⟨w3, st2, z2, w4, e2, s2, ⟨f2, G3⟩, G4, g4⟩ := G2.put (mem_set_ne hqb (Ne.symm hab)) qa.1 v
  have ka : ∃ r ∈ Q, r.1 = qa.1 ∧ r.2.1 = qa.2.1 := ⟨qa, hqa, rfl, rfl⟩
  have kb : ∃ r ∈ Q, r.1 = qb.1 ∧ r.2.1 = qb.2.1 := ⟨qb, hqb, rfl, rfl⟩
  have S0 := Lib.hid (h0.joinS ka kb)
  have S1 := Lib.hid (G1.joinS (mem_set_some _ _ ka) (mem_set_some _ _ kb))
  have S2 := Lib.hid (G2.joinS (mem_set_some _ _ ka) (mem_set_some _ _ kb))
  have S3 := Lib.hid (G3.joinS (mem_set_some _ _ (mem_set_some _ _ ka)) (mem_set_some _ _ (mem_set_some _ _ kb)))
  have S4 := Lib.hid (G4.joinS (mem_set_some _ _ (mem_set_some _ _ ka)) (mem_set_some _ _ (mem_set_some _ _ kb)))
  have GG := Lib.hid G4
  have MM := Lib.hid (show Mod (fun j => j = qa.2.1 ∨ j = qb.2.1) w w4 by
    have hg0 : w.grownBy W none := by rw [hW]; exact ⟨rfl, rfl, rfl, Nat.le_refl _, fun _ _ _ => rfl⟩
    refine ⟨(g4.os.trans g2.os).trans hg0.os, (g4.tape.trans g2.tape).trans hg0.tape, (g4.output.trans g2.output).trans hg0.output, Nat.le_trans hg0.size (Nat.le_trans g2.size g4.size), fun k hk hn => ?_⟩
    have h1 := hg0.size
    have h2 := g2.size
    exact (g4.block k (by omega) (fun e => hn (.inr (by cases e; rfl)))).trans ((g2.block k (by omega) (fun e => hn (.inl (by cases e; rfl)))).trans (hg0.block k hk (by simp))))
  have HW := Lib.hid hW
  clear hW h h0 G1 G2 G3 G4 g2 g4 ka kb hqa hqb
  go_enter Try.func41, Try.ntmps41
  refine region_go (fun w' => w'.cell? ⟨p, 0, none⟩ = some (.map (some m)) ∧ (Instr.lookup 91 (.map (some m)) (.int .u64 qa.1) false).run Try.prog w' = .ok (.map (some qa.2.1)) w' ∧ (Instr.lookup 91 (.map (some m)) (.int .u64 qb.1) false).run Try.prog w' = .ok (.map (some qb.2.1)) w') (by kernel_rfl) ?hS0 (fun hH => ?_)
  case hS0 =>
    rw [← HW.out]; exact S0.out
  rw [← HW.out] at hH ⊢
  refine kY 0 hH ?_
  repeat simp only [Act.put, uA1, uB1, uC1]
  refine kY 1 hH ?_
  repeat simp only [Act.put, uA1, uB1, uC1]
  refine kY 2 hH ?_
  repeat simp only [Act.put, uA1, uB1, uC1]
  refine kY 3 hH ?_
  repeat simp only [Act.put, uA1, uB1, uC1]
  refine kY 4 hH ?_
  repeat simp only [Act.put, uA1, uB1, uC1]
  refine kY 5 hH ?_
  repeat simp only [Act.put, uA1, uB1, uC1]
  refine kY 6 hH ?_
  repeat simp only [Act.put, uA1, uB1, uC1]
  refine kY 7 hH ?_
  repeat simp only [Act.put, uA1, uB1, uC1]
  refine kY 8 hH ?_
  repeat simp only [Act.put, uA1, uB1, uC1]
  refine kY 9 hH ?_
  repeat simp only [Act.put, uA1, uB1, uC1]
  refine kY 10 hH ?_
  repeat simp only [Act.put, uA1, uB1, uC1]
  refine kY 11 hH ?_
  repeat simp only [Act.put, uA1, uB1, uC1]
  refine kY 12 hH ?_
  repeat simp only [Act.put, uA1, uB1, uC1]
  refine kY 13 hH ?_
  repeat simp only [Act.put, uA1, uB1, uC1]
  refine kY 14 hH ?_
  repeat simp only [Act.put, uA1, uB1, uC1]
  refine kY 15 hH ?_
  repeat simp only [Act.put, uA1, uB1, uC1]
  refine spk 16 rfl (by decide +kernel) (by rfl) (fun K' hK => ?_)
  go_simp
  try dsimp only
  refine hK.out _ _ ?hS (fun hH' => ?_)
  case hS =>
    exact S1.out
  clear hK K' hH; have hH := hH'; clear hH'; repeat simp only [Act.put, uA1, uB1, uC1]
  refine kY 17 hH ?_
  repeat simp only [Act.put, uA1, uB1, uC1]
  refine spk 18 rfl (by decide +kernel) (by rfl) (fun K' hK => ?_)
  go_simp
  try dsimp only
  refine hK.out _ _ ?hS (fun hH' => ?_)
  case hS =>
    exact S2.out
  clear hK K' hH; have hH := hH'; clear hH'; repeat simp only [Act.put, uA1, uB1, uC1]
  refine spk 19 rfl (by decide +kernel) (by rfl) (fun K' hK => ?_)
  go_simp
  try dsimp only
  refine hK.out _ _ ?hS (fun hH' => ?_)
  case hS =>
    exact S3.out
  clear hK K' hH; have hH := hH'; clear hH'; repeat simp only [Act.put, uA1, uB1, uC1]
  refine kY 20 hH ?_
  repeat simp only [Act.put, uA1, uB1, uC1]
  refine spk 21 rfl (by decide +kernel) (by rfl) (fun K' hK => ?_)
  go_simp
  try dsimp only
  refine hK.out _ _ ?hS (fun hH' => ?_)
  case hS =>
    exact S4.out
  clear hK K' hH; have hH := hH'; clear hH'; repeat simp only [Act.put, uA1, uB1, uC1]
  refine wpAnyH_done (by decide +kernel) ?_ _
  go_wp2
  go_end0
  exact ⟨rfl, GG.out, MM.out⟩

end Go.Proofs.Ytjnkiloomdeljaa

namespace Go.Proofs.Ytjnkiloomdeljaa
open Go.RowKit Go.ChangeMaps

/-- the edge from q to x -/
def edgeO (E : List (Int × Bool)) (x : Int) : Option Bool := (E.find? fun e => decide (e.1 = x)).map (·.2)

theorem getK_inner (E : List (Int × Bool)) (x : Int) : getK (innerL E) x = (edgeO E x).map Value.bool := by
  unfold getK innerL edgeO
  rw [List.find?_map, Option.map_map, Option.map_map]
  rfl

theorem GrAt.edge {w : World} {p m : Nat} {Q : Gr} (h : GrAt w p m Q) {q : Int × Nat × List (Int × Bool)} (hq : q ∈ Q) (x : Int) (c : Bool) :
    (Instr.lookup 72 (.map (some q.2.1)) (.int .u64 x) c).run Try.prog w = .ok (if c then .tuple #[.bool ((edgeO q.2.2 x).getD false), .bool (edgeO q.2.2 x).isSome] else .bool ((edgeO q.2.2 x).getD false)) w := by
  have hl := run_look KO64 Try.underlying72 (h.inner q hq) (zeroB w) x c
  rw [getK_inner] at hl
  have e1 : ((edgeO q.2.2 x).map Value.bool).getD (.bool false) = .bool ((edgeO q.2.2 x).getD false) := by cases edgeO q.2.2 x <;> rfl
  rw [e1, Option.isSome_map] at hl
  exact hl

theorem pair_ok {Q : Gr} {a b : Int} (h : pairZ Q a b = 0) : a ≠ b ∧ hasB Q a = true ∧ hasB Q b = true := by
  unfold pairZ at h
  split at h
  · cases h
  · next hab =>
    split at h
    · next h1 =>
      rw [Bool.and_eq_true] at h1
      exact ⟨hab, h1⟩
    · cases h

/-- the blocks of the nodes' maps -/
def BlocksOf (Q : Gr) (j : Nat) : Prop := ∃ q ∈ Q, j = q.2.1

/-- what Bind, Link say, and the graph then -/
def bindG (Q : Gr) (a b : Int) : Int × Gr :=
  if pairZ Q a b ≠ 0 then (pairZ Q a b, Q) else
  match Q.find? (fun q => decide (q.1 = a)) with
  | some q => if (edgeO q.2.2 b).getD false then (7, Q) else (0, joinQ Q a b true)
  | none => (6, Q)

def linkG (Q : Gr) (a b : Int) : Int × Gr :=
  if pairZ Q a b ≠ 0 then (pairZ Q a b, Q) else
  match Q.find? (fun q => decide (q.1 = a)) with
  | some q => if (edgeO q.2.2 b).isSome then (7, Q) else (0, joinQ Q a b false)
  | none => (6, Q)

end Go.Proofs.Ytjnkiloomdeljaa

namespace Go.Proofs.Ytjnkiloomdeljaa
open Go.RowKit Go.ChangeMaps

set_option maxRecDepth 100000 in
set_option maxHeartbeats 4000000 in
theorem gLink (w : World) (p m : Nat) (Q : Gr) (a b : Int) (h : GrAt w p m Q) :
    Calls Try.prog 23 #[.pointer (some ⟨p, 0, none⟩), .int .u64 a, .int .u64 b] w fun e w' =>
      e = .returned (.int .i64 (linkG Q a b).1) ∧ GrAt w' p m (linkG Q a b).2 ∧ Mod (BlocksOf Q) w w' := by
  have cP := gPair w p m Q a b h
  have hc := h.get
  by_cases hp : pairZ Q a b = 0
  · obtain ⟨hab, ha, hb⟩ := pair_ok hp
    obtain ⟨qa, hqa, rfl, hfa, -⟩ := getK_outer_some ha
    obtain ⟨qb, hqb, rfl, hfb, -⟩ := getK_outer_some hb
    have hl := h.look hqa
    have he := h.edge hqa qb.1 true
    simp only [if_true] at he
    rw [hp] at cP
    unfold linkG
    rw [if_neg (by simp [hp]), hfa]
    simp only
    generalize (edgeO qa.2.2 qb.1).getD false = nd at he
    cases hx : (edgeO qa.2.2 qb.1).isSome with
    | true =>
      rw [hx] at he
      simp only [if_true]
      have HH := Lib.hid h
      clear h
      go_enter Try.func23, Try.ntmps23
      go_wp2_with (first | (go_at_call 40; refine cP.mono ?_; rintro e w' ⟨rfl, rfl⟩))
      go_ret
      exact ⟨rfl, HH.out, Mod.refl _ _⟩
    | false =>
      rw [hx] at he
      simp only [Bool.false_eq_true, if_false]
      have cJ := gJoin w p m Q qa qb false h hqa hqb hab
      clear h
      go_enter Try.func23, Try.ntmps23
      go_wp2_with (first
        | (go_at_call 40; refine cP.mono ?_; rintro e w' ⟨rfl, rfl⟩)
        | (go_at_call 41; refine cJ.mono ?_; rintro e w2 ⟨rfl, hG, hM⟩; have HG := Lib.hid hG; have HM := Lib.hid hM; clear hG hM))
      go_ret
      exact ⟨rfl, HG.out, HM.out.mono (fun k _ hk => hk.elim (fun e => ⟨qa, hqa, e⟩) (fun e => ⟨qb, hqb, e⟩))⟩
  · unfold linkG
    rw [if_pos (by simpa using hp)]
    generalize pairZ Q a b = z at hp cP ⊢
    have hz : decide (z = 0) = false := by simpa using hp
    have HH := Lib.hid h
    clear h
    go_enter Try.func23, Try.ntmps23
    go_wp2_with (first | (go_at_call 40; refine cP.mono ?_; rintro e w' ⟨rfl, rfl⟩))
    go_ret
    exact ⟨rfl, HH.out, Mod.refl _ _⟩

end Go.Proofs.Ytjnkiloomdeljaa

namespace Go.Proofs.Ytjnkiloomdeljaa
open Go.RowKit Go.ChangeMaps

def delE (E : List (Int × Bool)) (x : Int) : List (Int × Bool) := E.filter fun e => decide (e.1 ≠ x)
def cutQ (Q : Gr) (a b : Int) : Gr := setQ (setQ Q a fun E => delE E b) b fun E => delE E a

/-- what Cut says, and the graph then -/
def cutG (Q : Gr) (a b : Int) : Int × Gr :=
  if pairZ Q a b ≠ 0 then (pairZ Q a b, Q) else
  match Q.find? (fun q => decide (q.1 = a)) with
  | some q => match edgeO q.2.2 b with
    | none => (6, Q)
    | some true => (10, Q)
    | some false => (0, cutQ Q a b)
  | none => (6, Q)

/-- an entry is struck -/
theorem GrAt.del {w : World} {p m : Nat} {Q : Gr} (h : GrAt w p m Q) {q : Int × Nat × List (Int × Bool)} (hq : q ∈ Q) (x : Int) :
    ∃ w1, (∀ ty, (Builtin.delete_ #[72, 37] ty #[.map (some q.2.1), .int .u64 x]).run Try.prog w = .ok (.tuple #[]) w1) ∧ GrAt w1 p m (setQ Q q.1 fun E => delE E x) ∧ w.grownBy w1 (some q.2.1) := by
  obtain ⟨w1, h1, hm1, hg1, -⟩ := run_del KO64 Try.underlying72 (h.inner q hq) x
  rw [innerL_del] at hm1
  exact ⟨w1, h1, h.set hq (fun E => delE E x) hm1 hg1, hg1⟩

end Go.Proofs.Ytjnkiloomdeljaa

namespace Go.Proofs.Ytjnkiloomdeljaa
open Go.RowKit Go.ChangeMaps

theorem gLink_nil (w : World) (a b : Int) :
    Calls Try.prog 23 #[.pointer none, .int .u64 a, .int .u64 b] w fun e w' => e = .returned (.int .i64 6) ∧ w' = w := by
  go_enter Try.func23, Try.ntmps23
  go_wp2_with (first | (go_at_call 40; refine (gPair_nil _ _ _).mono ?_; rintro e w' ⟨rfl, rfl⟩))
  go_ret
  exact ⟨rfl, rfl⟩

theorem gNear_nil (w : World) (a : Int) :
    Calls Try.prog 14 #[.pointer none, .int .u64 a] w fun e w' => e = .returned (.slice none 0 0) ∧ w' = w := by
  go_enter Try.func14, Try.ntmps14
  go_wp2_with fail
  go_ret
  exact ⟨rfl, rfl⟩

theorem gKeys_nil (w : World) :
    Calls Try.prog 19 #[.pointer none] w fun e w' => e = .returned (.slice none 0 0) ∧ w' = w := by
  go_enter Try.func19, Try.ntmps19
  go_wp2_with fail
  go_ret
  exact ⟨rfl, rfl⟩

theorem gLen_nil (w : World) :
    Calls Try.prog 16 #[.pointer none] w fun e w' => e = .returned (.int .i64 0) ∧ w' = w := by
  go_enter Try.func16, Try.ntmps16
  go_wp2_with fail
  go_ret
  exact ⟨rfl, rfl⟩

theorem gLen (w : World) (p m : Nat) (Q : Gr) (h : GrAt w p m Q) :
    Calls Try.prog 16 #[.pointer (some ⟨p, 0, none⟩)] w fun e w' => e = .returned (.int .i64 Q.length) ∧ w' = w := by
  have hc := h.get
  have hl := fun ty => run_len (P := Try.prog) Try.underlying91 h.outer ty
  have hQ : (outerL Q).length = Q.length := by simp [outerL]
  rw [hQ] at hl
  clear h
  go_enter Try.func16, Try.ntmps16
  go_wp2_with fail
  go_ret
  exact ⟨rfl, rfl⟩

end Go.Proofs.Ytjnkiloomdeljaa
