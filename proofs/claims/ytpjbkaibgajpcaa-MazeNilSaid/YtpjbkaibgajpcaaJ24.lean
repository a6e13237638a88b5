/-
  graph: Link.
  graph: Cut.
  graph: what is asked of no graph.
  slices.Sort at uint64, part A: cmp.Less, insertionSort. (The scripts are those of the worked sort at int, turned to this program.)
-/
import Derived.Test.YtpjbkaibgajpcaaJ23
import Derived.Test.YtpjbkaibgajpcaaJ01
import Derived.Sort.WalkA
namespace Go.Proofs.Ytpjbkaibgajpcaa
open Go.RowKit Go.ChangeMaps

set_option maxRecDepth 100000 in
set_option maxHeartbeats 4000000 in
theorem gLink (w : World) (p m : Nat) (Q : Gr) (a b : Int) (h : GrAt w p m Q) :
    Calls Try.prog 26 #[.pointer (some ⟨p, 0, none⟩), .int .u64 a, .int .u64 b] w fun e w' =>
      e = .returned (.int .i64 (linkG Q a b).1) ∧ GrAt w' p m (linkG Q a b).2 ∧ Mod (BlocksOf Q) w w' := by
  have cP := gPair w p m Q a b h
  have hc := h.get
  by_cases hp : pairZ Q a b = 0
  · obtain ⟨hab, ha, hb⟩ := pair_ok hp
    obtain ⟨qa, hqa, rfl, hfa, -⟩ := getK_outer_some ha
    obtain ⟨qb, hqb, rfl, hfb, -⟩ := getK_outer_some hb
    have hl := h.look hqa
    have he := h.edge hqa qb.1 true
    simp only [if_true] at he
    rw [hp] at cP
    unfold linkG
    rw [if_neg (by simp [hp]), hfa]
    simp only
    generalize (edgeO qa.2.2 qb.1).getD false = nd at he
    cases hx : (edgeO qa.2.2 qb.1).isSome with
    | true =>
      rw [hx] at he
      simp only [if_true]
      have HH := Lib.hid h
      clear h
      go_enter Try.func26, Try.ntmps26
      go_wp2_with (first | (go_at_call 42; refine cP.mono ?_; rintro e w' ⟨rfl, rfl⟩))
      go_ret
      exact ⟨rfl, HH.out, Mod.refl _ _⟩
    | false =>
      rw [hx] at he
      simp only [Bool.false_eq_true, if_false]
      have cJ := gJoin w p m Q qa qb false h hqa hqb hab
      clear h
      go_enter Try.func26, Try.ntmps26
      go_wp2_with (first
        | (go_at_call 42; refine cP.mono ?_; rintro e w' ⟨rfl, rfl⟩)
        | (go_at_call 43; refine cJ.mono ?_; rintro e w2 ⟨rfl, hG, hM⟩; have HG := Lib.hid hG; have HM := Lib.hid hM; clear hG hM))
      go_ret
      exact ⟨rfl, HG.out, HM.out.mono (fun k _ hk => hk.elim (fun e => ⟨qa, hqa, e⟩) (fun e => ⟨qb, hqb, e⟩))⟩
  · unfold linkG
    rw [if_pos (by simpa using hp)]
    generalize pairZ Q a b = z at hp cP ⊢
    have hz : decide (z = 0) = false := by simpa using hp
    have HH := Lib.hid h
    clear h
    go_enter Try.func26, Try.ntmps26
    go_wp2_with (first | (go_at_call 42; refine cP.mono ?_; rintro e w' ⟨rfl, rfl⟩))
    go_ret
    exact ⟨rfl, HH.out, Mod.refl _ _⟩

end Go.Proofs.Ytpjbkaibgajpcaa

namespace Go.Proofs.Ytpjbkaibgajpcaa
open Go.RowKit Go.ChangeMaps

def delE (E : List (Int × Bool)) (x : Int) : List (Int × Bool) := E.filter fun e => decide (e.1 ≠ x)
def cutQ (Q : Gr) (a b : Int) : Gr := setQ (setQ Q a fun E => delE E b) b fun E => delE E a

/-- what Cut says, and the graph then -/
def cutG (Q : Gr) (a b : Int) : Int × Gr :=
  if pairZ Q a b ≠ 0 then (pairZ Q a b, Q) else
  match Q.find? (fun q => decide (q.1 = a)) with
  | some q => match edgeO q.2.2 b with
    | none => (6, Q)
    | some true => (10, Q)
    | some false => (0, cutQ Q a b)
  | none => (6, Q)

/-- an entry is struck -/
theorem GrAt.del {w : World} {p m : Nat} {Q : Gr} (h : GrAt w p m Q) {q : Int × Nat × List (Int × Bool)} (hq : q ∈ Q) (x : Int) :
    ∃ w1, (∀ ty, (Builtin.delete_ #[71, 22] ty #[.map (some q.2.1), .int .u64 x]).run Try.prog w = .ok (.tuple #[]) w1) ∧ GrAt w1 p m (setQ Q q.1 fun E => delE E x) ∧ w.grownBy w1 (some q.2.1) := by
  obtain ⟨w1, h1, hm1, hg1, -⟩ := run_del KO64 Try.underlying71 (h.inner q hq) x
  rw [innerL_del] at hm1
  exact ⟨w1, h1, h.set hq (fun E => delE E x) hm1 hg1, hg1⟩

set_option maxRecDepth 100000 in
set_option maxHeartbeats 4000000 in
theorem gCut (w : World) (p m : Nat) (Q : Gr) (a b : Int) (h : GrAt w p m Q) :
    Calls Try.prog 46 #[.pointer (some ⟨p, 0, none⟩), .int .u64 a, .int .u64 b] w fun e w' =>
      e = .returned (.int .i64 (cutG Q a b).1) ∧ GrAt w' p m (cutG Q a b).2 ∧ Mod (BlocksOf Q) w w' := by
  have cP := gPair w p m Q a b h
  have hc := h.get
  by_cases hp : pairZ Q a b = 0
  · obtain ⟨hab, ha, hb⟩ := pair_ok hp
    obtain ⟨qa, hqa, rfl, hfa, -⟩ := getK_outer_some ha
    obtain ⟨qb, hqb, rfl, hfb, -⟩ := getK_outer_some hb
    have hl := h.look hqa
    have he := h.edge hqa qb.1 true
    simp only [if_true] at he
    rw [hp] at cP
    unfold cutG
    rw [if_neg (by simp [hp]), hfa]
    simp only
    cases hx : edgeO qa.2.2 qb.1 with
    | none =>
      rw [hx] at he
      simp only [Option.getD_none, Option.isSome_none] at he
      have HH := Lib.hid h
      clear h
      go_enter Try.func46, Try.ntmps46
      go_wp2_with (first | (go_at_call 42; refine cP.mono ?_; rintro e w' ⟨rfl, rfl⟩))
      go_ret
      exact ⟨rfl, HH.out, Mod.refl _ _⟩
    | some nd =>
      rw [hx] at he
      simp only [Option.getD_some, Option.isSome_some] at he
      cases nd with
      | true =>
        have HH := Lib.hid h
        clear h
        go_enter Try.func46, Try.ntmps46
        go_wp2_with (first | (go_at_call 42; refine cP.mono ?_; rintro e w' ⟨rfl, rfl⟩))
        go_ret
        exact ⟨rfl, HH.out, Mod.refl _ _⟩
      | false =>
        obtain ⟨w1, d1, G1, g1⟩ := h.del hqa qb.1
        have hqb1 := mem_set_ne (f := fun E => delE E qb.1) hqb (Ne.symm hab)
        obtain ⟨w2, d2, G2, g2⟩ := G1.del hqb1 qa.1
        have hc1 := G1.get
        have hl1 := G1.look hqb1
        have GG := Lib.hid G2
        have MM := Lib.hid (show Mod (BlocksOf Q) w w2 from ⟨g2.os.trans g1.os, g2.tape.trans g1.tape, g2.output.trans g1.output, Nat.le_trans g1.size g2.size, fun k hk hn => by
          have := g1.size
          exact (g2.block k (by omega) (fun e => hn ⟨qb, hqb, by cases e; rfl⟩)).trans (g1.block k hk (fun e => hn ⟨qa, hqa, by cases e; rfl⟩))⟩)
        clear h G1 G2 g1 g2 hqb1
        go_enter Try.func46, Try.ntmps46
        go_wp2_with (first | (go_at_call 42; refine cP.mono ?_; rintro e w' ⟨rfl, rfl⟩))
        go_ret
        exact ⟨rfl, GG.out, MM.out⟩
  · unfold cutG
    rw [if_pos (by simpa using hp)]
    generalize pairZ Q a b = z at hp cP ⊢
    have hz : decide (z = 0) = false := by simpa using hp
    have HH := Lib.hid h
    clear h
    go_enter Try.func46, Try.ntmps46
    go_wp2_with (first | (go_at_call 42; refine cP.mono ?_; rintro e w' ⟨rfl, rfl⟩))
    go_ret
    exact ⟨rfl, HH.out, Mod.refl _ _⟩

end Go.Proofs.Ytpjbkaibgajpcaa

namespace Go.Proofs.Ytpjbkaibgajpcaa
open Go.RowKit Go.ChangeMaps

theorem gNear_nil (w : World) (a : Int) :
    Calls Try.prog 29 #[.pointer none, .int .u64 a] w fun e w' => e = .returned (.slice none 0 0) ∧ w' = w := by
  go_enter Try.func29, Try.ntmps29
  go_wp2_with fail
  go_ret
  exact ⟨rfl, rfl⟩

theorem gKeys_nil (w : World) :
    Calls Try.prog 31 #[.pointer none] w fun e w' => e = .returned (.slice none 0 0) ∧ w' = w := by
  go_enter Try.func31, Try.ntmps31
  go_wp2_with fail
  go_ret
  exact ⟨rfl, rfl⟩

theorem gLen_nil (w : World) :
    Calls Try.prog 33 #[.pointer none] w fun e w' => e = .returned (.int .i64 0) ∧ w' = w := by
  go_enter Try.func33, Try.ntmps33
  go_wp2_with fail
  go_ret
  exact ⟨rfl, rfl⟩

theorem gLen (w : World) (p m : Nat) (Q : Gr) (h : GrAt w p m Q) :
    Calls Try.prog 33 #[.pointer (some ⟨p, 0, none⟩)] w fun e w' => e = .returned (.int .i64 Q.length) ∧ w' = w := by
  have hc := h.get
  have hl := fun ty => run_len (P := Try.prog) Try.underlying80 h.outer ty
  have hQ : (outerL Q).length = Q.length := by simp [outerL]
  rw [hQ] at hl
  clear h
  go_enter Try.func33, Try.ntmps33
  go_wp2_with fail
  go_ret
  exact ⟨rfl, rfl⟩

end Go.Proofs.Ytpjbkaibgajpcaa

namespace Go.Proofs.Ytpjbkaibgajpcaa
open Go.RowKit Go.Sort

set_option maxHeartbeats 4000000 in
theorem srt_cmp_isNaN (x : Int) (w : World) : Calls Try.prog 87 #[.int .u64 x] w fun e w' => e = .returned (.bool false) ∧ w' = w := by
  go_enter Try.func87, Try.ntmps87
  go_wp2
  go_ret
  exact ⟨by simp, rfl⟩

set_option maxHeartbeats 4000000 in
theorem srt_cmp_Less (x y : Int) (w : World) : Calls Try.prog 68 #[.int .u64 x, .int .u64 y] w fun e w' => e = .returned (.bool (Sort.ltInt x y)) ∧ w' = w := by
  go_enter Try.func68, Try.ntmps68
  go_wp2_with (go_at_call 87; refine (srt_cmp_isNaN _ _).mono ?_; rintro e w' ⟨rfl, rfl⟩)
  go_ret
  exact ⟨rfl, rfl⟩

set_option maxHeartbeats 4000000 in
theorem srt_insertionSort (blk off cap a b : Nat) (d : Array Int) (w : World) (hH : Holds (Value.int .u64) w blk off d) (hab : a ≤ b) (hb : b ≤ d.size) (hsz : d.size < 4611686018427387904) :
    Calls Try.prog 62 #[.slice (some ⟨blk, off, none⟩) d.size cap, .int .i64 a, .int .i64 b] w fun e w' =>
      e = .returned (.tuple #[]) ∧ ∃ n, w' = putRow (Value.int .u64) (Sort.ahead w n) blk off (Sort.insertionSort ltInt d a b) := by
  go_enter Try.func62, Try.ntmps62
  go_wp2
  go_loopw [6] (fun vi wr => ∃ (i n : Nat) (dk : Array Int), vi = .int .i64 i ∧ a < i ∧ i ≤ b + 1 ∧ dk.size = d.size ∧ wr = putRow (Value.int .u64) (Sort.ahead w n) blk off dk ∧
      insOuter ltInt a b i dk = insOuter ltInt a b (a + 1) d) (fun vi _ => b + 1 - (intOf vi).toNat)
  case atStart => exact ⟨a + 1, 0, d, by go_num, by omega, by omega, rfl, (putRow_self _ _ _ _ _ hH).symm, rfl⟩
  case round =>
    obtain ⟨i, n, dk, rfl, hai, hib, hsk, hwr, hO⟩ := hrel
    have HO : Hid (insOuter ltInt a b i dk = insOuter ltInt a b (a + 1) d) := hO
    clear hO
    go_wp2
    · -- i < b: the inner loop
      go_loopw [7] (fun vj wr2 => ∃ (j m : Nat) (dj : Array Int), vj = .int .i64 j ∧ a ≤ j ∧ j ≤ i ∧ dj.size = d.size ∧ wr2 = putRow (Value.int .u64) (Sort.ahead w m) blk off dj ∧
          insInner ltInt a j dj = insInner ltInt a i dk) (fun vj _ => (intOf vj).toNat)
      case atStart => exact ⟨i, n, dk, rfl, by omega, Nat.le_refl _, hsk, rfl, rfl⟩
      case round =>
        obtain ⟨j, m, dj, rfl, haj, hji, hsj, hw2, hI⟩ := hrel
        have hlt : i < b := by assumption
        -- the row's contents under a name of their own (the authors' find: with 'j < d.size' at hand the walk's simp turns 'dj[j]!' into 'dj[j]'); its two families: Derived/CellFam.lean serves every load and store from them
        obtain ⟨G, hG⟩ : ∃ G : Nat → Int, ∀ t, G t = dj[t]! := ⟨fun t => dj[t]!, fun _ => rfl⟩
        have hcw : ∀ t, t < d.size → wr.cell? ⟨blk, off + t, none⟩ = some (.int .u64 (G t)) := fun t ht => by
          rw [hw2, hG]; exact cell?_putRow _ _ _ _ d dj (holds_ahead _ _ _ _ _ _ hH) hsj t (by omega)
        have hfw : ∀ t, t < d.size → wr.frozen? ⟨blk, off + t, none⟩ = false := fun t ht => by
          rw [hw2, frozen?_putRow]; exact ((holds_ahead _ _ m _ _ _ hH) t ht).2
        have HW : Hid (wr = putRow (Value.int .u64) (Sort.ahead w m) blk off dj) := hw2
        have HG : Hid (∀ t, G t = dj[t]!) := hG
        have HI : Hid (insInner ltInt a j dj = insInner ltInt a i dk) := hI
        clear hw2 hG hI hH
        -- out of the inner loop: dj is what the inner loop makes of dk: the outer round's end
        have out : (j ≤ a ∨ ltInt dj[j]! dj[j - 1]! = false) → ∀ q, ∃ i' n' dk', Value.int .i64 ((i : Int) + 1) = .int .i64 (i' : Nat) ∧ a < i' ∧ i' ≤ b + 1 ∧ dk'.size = d.size ∧
            wr.drewN q = putRow (Value.int .u64) (Sort.ahead w n') blk off dk' ∧ insOuter ltInt a b i' dk' = insOuter ltInt a b (a + 1) d := fun hs q =>
          ⟨i + 1, m + q, dj, by go_num, by omega, by omega, hsj, by rw [HW.out]; exact putRow_drewN _ _ _ _ _ _ _,
            by rw [← HO.out, insOuter_go _ _ _ _ _ hlt, ← HI.out, insInner_stop _ _ _ _ hs]⟩
        have OUT : Hid _ := out
        clear out
        go_wp2
        by_cases hja : a < j
        · go_quiet (first | (go_at_call 68; refine Calls.quiet_of_same (srt_cmp_Less _ _ _)))
          go_wp2
          · -- Less: the swap, j--
            have hl : ltInt (G j) (G (j - 1)) = true := by assumption
            go_region
            all_goals go_wp2
            go_roundw
            case rel =>
              refine ⟨j - 1, m + (nq + 1), swp dj j (j - 1), by congr 1; omega, by omega, by omega, by rw [size_swp]; exact hsj, ?_, ?_⟩
              · rw [HW.out, HG.out, HG.out]
                exact swap_worldA _ w m (nq + 1) blk off dj j (j - 1) (by omega) (by omega)
              · rw [← HI.out, insInner_go ltInt a j dj hja (by rw [← HG.out, ← HG.out]; exact hl)]
            case measure => simp [intOf]; omega
          · -- not Less
            have hl : ltInt (G j) (G (j - 1)) = false := by assumption
            go_roundw
            case rel => exact OUT.out (Or.inr (by rw [← HG.out, ← HG.out]; exact hl)) nq
            case measure => simp [intOf]; omega
        · go_quiet (first | (go_at_call 68; refine Calls.quiet_of_same (srt_cmp_Less _ _ _)))
          go_wp2
          go_roundw
          case rel => exact OUT.out (Or.inl (by omega)) nq
          case measure => simp [intOf]; omega
    · -- the outer loop is at its end
      have hge : ¬ i < b := by assumption
      go_end0
      exact ⟨rfl, n, by unfold Sort.insertionSort; rw [← HO.out, insOuter_stop _ _ _ _ _ hge]⟩

end Go.Proofs.Ytpjbkaibgajpcaa
