/-
  note: is nothing too great?
-/
import Derived.Test.YtfmlhdikagogcaaDoorJ12
import Derived.Deep.DeepCutAuto
namespace Go.Proofs.YtfmlhdikagogcaaDoor
open Go.RowKit
set_option maxRecDepth 20000

/-- a note as it is read: its slices' values -/
structure NoteV (w : World) (F : Nat → Prop) (n : Nt) (vp vo vv vh : Value) : Prop where
  parts : Nums w .i64 vp n.parts
  ops : RecsF w F vo n.ops
  vec : Nums w .i32 vv n.vec
  hits : HitsF w F vh n.hits

theorem NoteV.below {w w' : World} {F : Nat → Prop} {n : Nt} {vp vo vv vh : Value} (h : NoteV w F n vp vo vv vh) (hb : Below w.heap.size w w') : NoteV w' F n vp vo vv vh :=
  ⟨h.parts.below hb, h.ops.below hb, h.vec.below hb, h.hits.below hb⟩

/-- its numbers are not too great -/
def numsB (n : Nt) : Bool := decide (n.stamp ≤ 1099511627776) && decide (n.after ≤ 1099511627776) && decide (n.mark ≤ 1099511627776) && decide (n.id ≤ 1099511627776) && decide (0 ≤ n.k) && decide (0 ≤ n.ef) && decide (0 ≤ n.who) && decide (0 ≤ n.code) && decide (n.k ≤ 16) && decide (n.ef ≤ 256) && decide (n.who < 16) && decide (n.code ≤ 13)

/-- its lists are not too long -/
def lensB (n : Nt) : Bool := decide (n.parts.length ≤ 4) && decide (n.ops.length ≤ 16) && decide (n.hits.length ≤ 16) && bareB n.vec

def partOk (l : List Int) (i : Nat) : Bool := decide (0 ≤ l.getD i 0) && decide (l.getD i 0 < 16) && (i == 0 || decide (l.getD (i - 1) 0 < l.getD i 0))

def partsB (l : List Int) : Bool := (List.range l.length).all (partOk l)

def boundedB (n : Nt) : Bool := numsB n && lensB n && partsB n.parts && !n.ops.any badOp && !n.hits.any badHit

theorem parts_no {l : List Int} {k : Nat} (hk : k < l.length) (h : partOk l k = false) : partsB l = false := by
  unfold partsB
  rw [List.all_eq_false]
  exact ⟨k, List.mem_range.2 hk, by simp [h]⟩

theorem parts_yes {l : List Int} (h : ∀ j, j < l.length → partOk l j = true) : partsB l = true := by
  unfold partsB
  rw [List.all_eq_true]
  exact fun j hj => h j (List.mem_range.1 hj)

theorem max3 (a b c : Int) : ∃ M : Int, (∀ w : World, (Builtin.max_ #[29, 29, 29] 29 #[.int .u64 a, .int .u64 b, .int .u64 c]).run Tryd.prog w = .ok (.int .u64 M) w) ∧ (1099511627776 < M ↔ 1099511627776 < a ∨ 1099511627776 < b ∨ 1099511627776 < c) := by
  refine ⟨_, fun w => by simp [Builtin.max_, Builtin.max2]; rfl, ?_⟩
  split <;> split <;> omega

theorem min4 (a b c d : Int) : ∃ M : Int, (∀ w : World, (Builtin.min_ #[3, 3, 3, 3] 3 #[.int .i64 a, .int .i64 b, .int .i64 c, .int .i64 d]).run Tryd.prog w = .ok (.int .i64 M) w) ∧ (M < 0 ↔ a < 0 ∨ b < 0 ∨ c < 0 ∨ d < 0) := by
  refine ⟨_, fun w => by simp [Builtin.min_, Builtin.min2]; rfl, ?_⟩
  split <;> split <;> split <;> omega

theorem gt_run (t : TypeId) (k : IntKind) (a b : Int) (w : World) (hk : k = .u64 ∨ k = .i64) : (binOp .gtr t (.int k a) (.int k b)).run Tryd.prog w = .ok (.bool (decide (b < a))) w := by
  rcases hk with rfl | rfl <;> go_simp

set_option maxHeartbeats 4000000 in
theorem bounded (n : Nt) (F : Nat → Prop) (vp vo vv vh : Value) (W : World) (hv : NoteV W F n vp vo vv vh) :
    Calls Tryd.prog 68 #[.agg (n.cells vp vo vv vh)] W fun e w' => e = .returned (.bool (boundedB n)) ∧ Below W.heap.size W w' := by
  obtain ⟨p0, q0, rfl, a0, b0, -, -⟩ := hv.parts.slice
  obtain ⟨p1, q1, rfl, a1, b1, -, -⟩ := id hv.ops
  obtain ⟨p2, q2, rfl, a2, b2, -, -⟩ := hv.vec.slice
  obtain ⟨p3, q3, rfl, a3, b3, -, -⟩ := id hv.hits
  have V := Lib.hid hv
  have l0 : n.parts.length ≤ 9223372036854775807 := by omega
  have l1 : n.ops.length ≤ 9223372036854775807 := by omega
  have l2 : n.vec.length ≤ 9223372036854775807 := by omega
  have l3 : n.hits.length ≤ 9223372036854775807 := by omega
  clear a0 b0 a1 b1 a2 b2 a3 b3 hv
  unfold Nt.cells
  obtain ⟨M, hmx, hM⟩ := max3 n.stamp n.after n.mark
  obtain ⟨N, hmn, hN⟩ := min4 n.k n.ef n.who n.code
  have hk : ∀ w, (binOp .gtr 3 (.int .i64 n.k) (.int .i64 16)).run Tryd.prog w = .ok (.bool (decide (16 < n.k))) w := fun w => by go_simp
  have he : ∀ w, (binOp .gtr 3 (.int .i64 n.ef) (.int .i64 256)).run Tryd.prog w = .ok (.bool (decide (256 < n.ef))) w := fun w => by go_simp
  have hw : ∀ w, (binOp .geq 3 (.int .i64 n.who) (.int .i64 16)).run Tryd.prog w = .ok (.bool (decide (16 ≤ n.who))) w := fun w => by go_simp
  have hc : ∀ w, (binOp .gtr 26 (.int .i64 n.code) (.int .i64 13)).run Tryd.prog w = .ok (.bool (decide (13 < n.code))) w := fun w => by go_simp
  generalize Value.int .u64 n.stamp = vs at *
  generalize Value.int .u64 n.after = va at *
  generalize Value.int .u64 n.mark = vm at *
  generalize Value.int .i64 n.k = vk at *
  generalize Value.int .i64 n.ef = ve at *
  generalize Value.int .i64 n.who = vw at *
  generalize Value.int .i64 n.code = vc at *
  have TH := Lib.hid (show numsB n = (!(decide (1099511627776 < M) || decide (1099511627776 < n.id) || decide (N < 0) || decide (16 < n.k) || decide (256 < n.ef) || decide (16 ≤ n.who) || decide (13 < n.code))) from by
    rw [Bool.eq_iff_iff]
    simp only [numsB, Bool.and_eq_true, decide_eq_true_eq, Bool.not_eq_true', Bool.or_eq_false_iff, decide_eq_false_iff_not, hM, hN]
    omega)
  clear hM hN
  generalize decide (16 < n.k) = t3 at *
  generalize decide (256 < n.ef) = t4 at *
  generalize decide (16 ≤ n.who) = t5 at *
  generalize decide (13 < n.code) = t6 at *
  go_enter Tryd.func68, Tryd.ntmps68
  go_upto_region 1 with fail
  obtain ⟨W1, hW1⟩ : ∃ W1, W1 = W.alloc (.cells #[.int .u8 n.kind, .int .u64 n.txn, .int .u64 n.batch, vs, va, vm, .int .u64 n.query, .int .u64 n.id, vk, ve, vc, vw, .slice p0 n.parts.length q0, .slice p1 n.ops.length q1, .slice p2 n.vec.length q2, .slice p3 n.hits.length q3] 37) := ⟨_, rfl⟩
  have BW : Hid (Below W.heap.size W W1) := by rw [hW1]; exact (Below.refl _ _).alloc (Nat.le_refl _) _
  have z3 : W1.cell? ⟨W.heap.size, 3, none⟩ = some vs := by rw [hW1]; go_simp
  have z4 : W1.cell? ⟨W.heap.size, 4, none⟩ = some va := by rw [hW1]; go_simp
  have z5 : W1.cell? ⟨W.heap.size, 5, none⟩ = some vm := by rw [hW1]; go_simp
  have z7 : W1.cell? ⟨W.heap.size, 7, none⟩ = some (.int .u64 n.id) := by rw [hW1]; go_simp
  have z8 : W1.cell? ⟨W.heap.size, 8, none⟩ = some vk := by rw [hW1]; go_simp
  have z9 : W1.cell? ⟨W.heap.size, 9, none⟩ = some ve := by rw [hW1]; go_simp
  have z10 : W1.cell? ⟨W.heap.size, 10, none⟩ = some vc := by rw [hW1]; go_simp
  have z11 : W1.cell? ⟨W.heap.size, 11, none⟩ = some vw := by rw [hW1]; go_simp
  have z12 : W1.cell? ⟨W.heap.size, 12, none⟩ = some (.slice p0 n.parts.length q0) := by rw [hW1]; go_simp
  have z13 : W1.cell? ⟨W.heap.size, 13, none⟩ = some (.slice p1 n.ops.length q1) := by rw [hW1]; go_simp
  have z14 : W1.cell? ⟨W.heap.size, 14, none⟩ = some (.slice p2 n.vec.length q2) := by rw [hW1]; go_simp
  have z15 : W1.cell? ⟨W.heap.size, 15, none⟩ = some (.slice p3 n.hits.length q3) := by rw [hW1]; go_simp
  rw [← hW1]
  clear hW1
  go_cut [50] (fun s50 wc => wc = W1 ∧ s50 = .bool (!numsB n))
  case first =>
    clear z12 z13 z14 z15
    cases t0 : decide (1099511627776 < M)
    · have t0' : ¬ 1099511627776 < M := of_decide_eq_false t0
      cases t1 : decide (1099511627776 < n.id)
      · have t1' : ¬ 1099511627776 < n.id := of_decide_eq_false t1
        cases t2 : decide (N < 0)
        · have t2' : ¬ N < 0 := of_decide_eq_false t2
          cases t3 <;> cases t4 <;> cases t5
          all_goals
            have TX := Lib.hid TH.out
            clear TH t0 t1 t2
            go_wp2_with fail
            go_meet
            exact ⟨rfl, congrArg Value.bool (by rw [TX.out]; cases t6 <;> simp [t0', t1', t2'])⟩
        · have t2' : N < 0 := of_decide_eq_true t2
          have TX := Lib.hid TH.out
          clear TH t0 t1 t2
          go_wp2_with fail
          go_meet
          exact ⟨rfl, congrArg Value.bool (by rw [TX.out]; simp [t2'])⟩
      · have t1' : 1099511627776 < n.id := of_decide_eq_true t1
        have TX := Lib.hid TH.out
        clear TH t0 t1
        go_wp2_with fail
        go_meet
        exact ⟨rfl, congrArg Value.bool (by rw [TX.out]; simp [t1'])⟩
    · have t0' : 1099511627776 < M := of_decide_eq_true t0
      have TX := Lib.hid TH.out
      clear TH t0
      go_wp2_with fail
      go_meet
      exact ⟨rfl, congrArg Value.bool (by rw [TX.out]; simp [t0'])⟩
  case rest =>
    obtain ⟨rfl, rfl⟩ := hcut
    clear hmx hmn hk he hw hc TH z3 z4 z5 z7 z8 z9 z10 z11
    have V1 := Lib.hid (V.out.below BW.out)
    cases hn : numsB n
    · have E := Lib.hid hn
      go_wp2_with fail
      go_ret
      exact ⟨ret_bool (by simp [boundedB, E.out]), BW.out⟩
    · have E := Lib.hid hn
      clear hn
      by_cases c0 : n.parts.length ≤ 4
      · have c0' : ¬ 4 < n.parts.length := by omega
        by_cases c1 : n.ops.length ≤ 16
        · have c1' : ¬ 16 < n.ops.length := by omega
          by_cases c2 : n.hits.length ≤ 16
          · have c2' : ¬ 16 < n.hits.length := by omega
            have BR := Lib.hid (bare n.vec _ _ V1.out.vec)
            go_wp2_with fail
            refine BR.out.mono ?_
            rintro e w' ⟨rfl, rfl⟩
            cases hb : bareB n.vec
            · have LB := Lib.hid (show lensB n = false by simp [lensB, hb])
              go_wp2_with fail
              go_ret
              exact ⟨ret_bool (by simp [boundedB, LB.out]), BW.out⟩
            · have LB := Lib.hid (show lensB n = true by simp [lensB, hb, c0, c1, c2])
              clear BR hb
              go_wp2_with fail
              go_loopg [76] n.parts.length (fun q' i wr => ∃ k : Nat, q' = n.parts.length - k ∧ k ≤ n.parts.length ∧ i = .int .i64 k ∧ (∀ j, j < k → partOk n.parts j = true) ∧ wr = wc)
              case atStart => exact ⟨0, rfl, by omega, rfl, fun j h => absurd h (by omega), rfl⟩
              case round =>
                obtain ⟨k, rfl, hk, rfl, hall, rfl⟩ := hrel
                have O := Lib.hid hall
                clear hall
                by_cases hlt : k < n.parts.length
                · obtain ⟨_, _, hv, -, -, -, hcell⟩ := V1.out.parts.slice
                  obtain ⟨rfl, -, rfl⟩ := Value.slice.inj hv
                  obtain ⟨b, off, rfl, d0⟩ := hcell k hlt
                  have hg : n.parts.getD k 0 = n.parts[k] := by simp [List.getD, List.getElem?_eq_getElem hlt]
                  have k0 : (0 : Int) ≤ (k : Int) := by omega
                  have k1 : (k : Int) < (n.parts.length : Int) := by omega
                  by_cases e0 : n.parts[k] < 0
                  · have PF : Hid (partOk n.parts k = false) := by simp only [partOk, hg]; simp; intro; omega
                    clear hv hcell hg
                    go_wp2_with fail
                    go_ret
                    exact ⟨ret_bool (by simp [boundedB, parts_no hlt PF.out]), BW.out⟩
                  · have e0' : (0 : Int) ≤ n.parts[k] := by omega
                    by_cases e1 : 16 ≤ n.parts[k]
                    · have PF : Hid (partOk n.parts k = false) := by simp only [partOk, hg]; simp; intro; omega
                      clear hv hcell hg
                      go_wp2_with fail
                      go_ret
                      exact ⟨ret_bool (by simp [boundedB, parts_no hlt PF.out]), BW.out⟩
                    · by_cases e2 : k = 0
                      · subst e2
                        have PF := Lib.hid (show partOk n.parts 0 = true by unfold partOk; rw [hg]; simp; omega)
                        have d0' : wr.cell? ⟨b, off, none⟩ = some (.int .i64 (n.parts[0])) := by simpa using d0
                        clear hv hcell hg d0
                        go_wp2_with fail
                        go_roundg (n.parts.length - (0 + 1))
                        case measure => omega
                        case rel => exact ⟨1, rfl, by omega, rfl, fun j h => (by rw [show j = 0 by omega]; exact PF.out), rfl⟩
                      · obtain ⟨kk, rfl⟩ : ∃ kk, k = kk + 1 := ⟨k - 1, by omega⟩
                        obtain ⟨b', off', hb', d1⟩ := hcell kk (by omega)
                        obtain ⟨rfl, rfl⟩ : b = b' ∧ off = off' := by simpa using hb'
                        have hg1 : n.parts.getD kk 0 = n.parts[kk] := by simp [List.getD, List.getElem?_eq_getElem (show kk < n.parts.length by omega)]
                        have m2 : (0 : Int) ≤ (kk : Int) := by omega
                        have m3 : (kk : Int) < (n.parts.length : Int) := by omega
                        have m5 : (kk : Int) + 1 < (n.parts.length : Int) := by omega
                        have m6 : (0 : Int) < (kk : Int) + 1 := by omega
                        by_cases e3 : n.parts[kk] < n.parts[kk + 1]
                        · have PF := Lib.hid (show partOk n.parts (kk + 1) = true by unfold partOk; rw [hg, Nat.add_sub_cancel, hg1]; simp; omega)
                          have e3' : ¬ n.parts[kk + 1] ≤ n.parts[kk] := by omega
                          clear hv hcell hg hg1 hb'
                          go_wp2_with fail
                          go_roundg (n.parts.length - (kk + 1 + 1))
                          case measure => omega
                          case rel => exact ⟨kk + 1 + 1, rfl, by omega, by go_num, fun j h => (by
                            by_cases e : j = kk + 1
                            · rw [e]; exact PF.out
                            · exact O.out j (by omega)), rfl⟩
                        · have PF := Lib.hid (show partOk n.parts (kk + 1) = false by unfold partOk; rw [hg, Nat.add_sub_cancel, hg1]; simp; intros; omega)
                          have e3' : n.parts[kk + 1] ≤ n.parts[kk] := by omega
                          clear hv hcell hg hg1 hb'
                          go_wp2_with fail
                          go_ret
                          exact ⟨ret_bool (by simp [boundedB, parts_no hlt PF.out]), BW.out⟩
                · obtain rfl : k = n.parts.length := by omega
                  have PY := Lib.hid (parts_yes O.out)
                  have CO := Lib.hid (containsOps n.ops F _ wr V1.out.ops)
                  go_wp2_with fail
                  refine CO.out.mono ?_
                  rintro e w2 ⟨rfl, hb2⟩
                  replace z15 := below_cells hb2 z15
                  have B2 := Lib.hid (BW.out.trans (hb2.mono BW.out.size))
                  have CH := Lib.hid (containsHits n.hits F _ w2 (V1.out.hits.below hb2))
                  clear hb2 z12 z13 z14
                  cases ha : n.ops.any badOp
                  · have HA := Lib.hid ha
                    clear ha
                    go_wp2_with fail
                    refine CH.out.mono ?_
                    rintro e w3 ⟨rfl, hb3⟩
                    have B3 := Lib.hid (B2.out.trans (hb3.mono B2.out.size))
                    clear hb3
                    go_wp2_with fail
                    go_ret
                    exact ⟨ret_bool (by simp [boundedB, E.out, LB.out, PY.out, HA.out]), B3.out⟩
                  · have HA := Lib.hid ha
                    clear ha
                    go_wp2_with fail
                    go_ret
                    exact ⟨ret_bool (by simp [boundedB, HA.out]), B2.out⟩
          · have c2' : 16 < n.hits.length := by omega
            have LB := Lib.hid (show lensB n = false by simp [lensB, c2])
            go_wp2_with fail
            go_ret
            exact ⟨ret_bool (by simp [boundedB, LB.out]), BW.out⟩
        · have c1' : 16 < n.ops.length := by omega
          have LB := Lib.hid (show lensB n = false by simp [lensB, c1])
          go_wp2_with fail
          go_ret
          exact ⟨ret_bool (by simp [boundedB, LB.out]), BW.out⟩
      · have c0' : 4 < n.parts.length := by omega
        have LB := Lib.hid (show lensB n = false by simp [lensB, c0])
        go_wp2_with fail
        go_ret
        exact ⟨ret_bool (by simp [boundedB, LB.out]), BW.out⟩


end Go.Proofs.YtfmlhdikagogcaaDoor
