/-
  note: is it one?
-/
import Derived.Test.YtfmlhdikagogcaaDoorJ13
import Derived.Test.YtfmlhdikagogcaaDoorJ02
namespace Go.Proofs.YtfmlhdikagogcaaDoor
open Go.RowKit
set_option maxRecDepth 20000

/-- a kind's fields -/
def fieldsZ (k : Int) : Int := (tabZ.getD k.toNat ([], 0)).2

/-- are the fields that it holds its kind's? -/
def fitsB (n : Nt) : Bool := bits .andNot .i64 (heldN n.flags 0 : Int) (fieldsZ n.kind) == 0

def rightN (n : Nt) : Bool := decide (1 ≤ n.kind) && decide (n.kind ≤ 22) && fitsB n && boundedB n

theorem name_run (k : Nat) (hk : k < tabZ.length) : ((⟨tabZ[k].1.toArray⟩ : ByteArray).toList = []) ↔ ¬ 1 ≤ k := by
  have h23 : tabZ.length = 23 := rfl
  have hc : k = 0 ∨ k = 1 ∨ k = 2 ∨ k = 3 ∨ k = 4 ∨ k = 5 ∨ k = 6 ∨ k = 7 ∨ k = 8 ∨ k = 9 ∨ k = 10 ∨ k = 11 ∨ k = 12 ∨ k = 13 ∨ k = 14 ∨ k = 15 ∨ k = 16 ∨ k = 17 ∨ k = 18 ∨ k = 19 ∨ k = 20 ∨ k = 21 ∨ k = 22 := by omega
  rcases hc with rfl | rfl | rfl | rfl | rfl | rfl | rfl | rfl | rfl | rfl | rfl | rfl | rfl | rfl | rfl | rfl | rfl | rfl | rfl | rfl | rfl | rfl | rfl <;> (simp only [tabZ, List.getElem_cons_zero, List.getElem_cons_succ]; decide +kernel)

set_option maxHeartbeats 8000000 in
theorem rightNote (n : Nt) (F : Nat → Prop) (vp vo vv vh : Value) (W : World) (ht : Tab W) (hv : NoteV W F n vp vo vv vh) (hkd : 0 ≤ n.kind ∧ n.kind ≤ 255) (hlen : n.parts.length ≤ 1000000 ∧ n.ops.length ≤ 1000000 ∧ n.vec.length ≤ 1000000 ∧ n.hits.length ≤ 1000000) :
    Calls Tryd.prog 56 #[.agg (n.cells vp vo vv vh)] W fun e w' => e = .returned (.bool (rightN n)) ∧ Below W.heap.size W w' := by
  obtain ⟨p0, q0, rfl, a0, b0, -, -⟩ := hv.parts.slice
  obtain ⟨p1, q1, rfl, a1, b1, -, -⟩ := id hv.ops
  obtain ⟨p2, q2, rfl, a2, b2, -, -⟩ := hv.vec.slice
  obtain ⟨p3, q3, rfl, a3, b3, -, -⟩ := id hv.hits
  have V := Lib.hid hv
  have HL := Lib.hid hlen
  have T := Lib.hid ht
  obtain ⟨hk0, hk1⟩ := hkd
  clear a0 b0 a1 b1 a2 b2 a3 b3 hv hlen ht
  have h23 : tabZ.length = 23 := rfl
  obtain ⟨W1, hW1⟩ : ∃ W1, W1 = W.alloc (.cells #[.int .u8 n.kind, .int .u64 n.txn, .int .u64 n.batch, .int .u64 n.stamp, .int .u64 n.after, .int .u64 n.mark, .int .u64 n.query, .int .u64 n.id, .int .i64 n.k, .int .i64 n.ef, .int .i64 n.code, .int .i64 n.who, .slice p0 n.parts.length q0, .slice p1 n.ops.length q1, .slice p2 n.vec.length q2, .slice p3 n.hits.length q3] 37) := ⟨_, rfl⟩
  have BW : Hid (Below W.heap.size W W1) := by rw [hW1]; exact (Below.refl _ _).alloc (Nat.le_refl _) _
  have z0 : W1.cell? ⟨W.heap.size, 0, none⟩ = some (.int .u8 n.kind) := by rw [hW1]; go_simp
  have z1 : W1.cell? ⟨W.heap.size, 1, none⟩ = some (.int .u64 n.txn) := by rw [hW1]; go_simp
  have z2 : W1.cell? ⟨W.heap.size, 2, none⟩ = some (.int .u64 n.batch) := by rw [hW1]; go_simp
  have z3 : W1.cell? ⟨W.heap.size, 3, none⟩ = some (.int .u64 n.stamp) := by rw [hW1]; go_simp
  have z4 : W1.cell? ⟨W.heap.size, 4, none⟩ = some (.int .u64 n.after) := by rw [hW1]; go_simp
  have z5 : W1.cell? ⟨W.heap.size, 5, none⟩ = some (.int .u64 n.mark) := by rw [hW1]; go_simp
  have z6 : W1.cell? ⟨W.heap.size, 6, none⟩ = some (.int .u64 n.query) := by rw [hW1]; go_simp
  have z7 : W1.cell? ⟨W.heap.size, 7, none⟩ = some (.int .u64 n.id) := by rw [hW1]; go_simp
  have z8 : W1.cell? ⟨W.heap.size, 8, none⟩ = some (.int .i64 n.k) := by rw [hW1]; go_simp
  have z9 : W1.cell? ⟨W.heap.size, 9, none⟩ = some (.int .i64 n.ef) := by rw [hW1]; go_simp
  have z10 : W1.cell? ⟨W.heap.size, 10, none⟩ = some (.int .i64 n.code) := by rw [hW1]; go_simp
  have z11 : W1.cell? ⟨W.heap.size, 11, none⟩ = some (.int .i64 n.who) := by rw [hW1]; go_simp
  have z12 : W1.cell? ⟨W.heap.size, 12, none⟩ = some (.slice p0 n.parts.length q0) := by rw [hW1]; go_simp
  have z13 : W1.cell? ⟨W.heap.size, 13, none⟩ = some (.slice p1 n.ops.length q1) := by rw [hW1]; go_simp
  have z14 : W1.cell? ⟨W.heap.size, 14, none⟩ = some (.slice p2 n.vec.length q2) := by rw [hW1]; go_simp
  have z15 : W1.cell? ⟨W.heap.size, 15, none⟩ = some (.slice p3 n.hits.length q3) := by rw [hW1]; go_simp
  have V1 := Lib.hid (V.out.below BW.out)
  unfold Nt.cells
  obtain ⟨nm, fl, b, SO, hq, hR⟩ : ∃ (nm : ByteArray) (fl : Int) (b : Bool), Hid (Calls Tryd.prog 66 #[.int .u8 n.kind] W1 fun e w' => e = .returned (.agg #[.string nm, .int .i64 fl]) ∧ Below W1.heap.size W1 w') ∧ Hid (nm.toList = [] ↔ ¬ b = true) ∧ Hid (rightN n = (b && (bits .andNot .i64 (heldN n.flags 0 : Int) fl == 0) && boundedB n)) := by
    by_cases hk : n.kind ≤ 22
    · obtain ⟨kd, hkd⟩ : ∃ kd : Nat, n.kind = kd := ⟨n.kind.toNat, by omega⟩
      have hkl : kd < tabZ.length := by omega
      refine ⟨_, _, decide (1 ≤ kd), Lib.hid (by rw [hkd]; exact sorted_in W1 (T.out.below BW.out) kd hkl), Lib.hid (by rw [decide_eq_true_eq]; exact name_run kd hkl), Lib.hid ?_⟩
      have HF : fieldsZ n.kind = tabZ[kd].2 := by unfold fieldsZ; rw [hkd]; simp [List.getD, List.getElem?_eq_getElem hkl]
      unfold rightN fitsB
      rw [HF, decide_eq_true hk, hkd]
      have hd : decide ((1 : Int) ≤ (kd : Int)) = decide (1 ≤ kd) := by
        apply decide_eq_decide.2; omega
      rw [hd, Bool.and_true]
    · refine ⟨⟨#[]⟩, 0, false, Lib.hid (sorted_out W1 n.kind (by omega) hk1), Lib.hid ⟨fun _ => by simp, fun _ => by decide +kernel⟩, Lib.hid ?_⟩
      · unfold rightN
        rw [decide_eq_false hk]
        simp
  clear T hk0 hk1
  generalize hX : bits .andNot .i64 (heldN n.flags 0 : Int) fl = X at hR
  go_enter Tryd.func56, Tryd.ntmps56
  go_wp2_with fail
  rw [← hW1]
  refine SO.out.mono ?_
  rintro e W2 ⟨rfl, hb2⟩
  have B2 := Lib.hid (BW.out.trans (hb2.mono BW.out.size))
  have V2 := Lib.hid (V1.out.below hb2)
  replace z0 := below_cells hb2 z0
  replace z1 := below_cells hb2 z1
  replace z2 := below_cells hb2 z2
  replace z3 := below_cells hb2 z3
  replace z4 := below_cells hb2 z4
  replace z5 := below_cells hb2 z5
  replace z6 := below_cells hb2 z6
  replace z7 := below_cells hb2 z7
  replace z8 := below_cells hb2 z8
  replace z9 := below_cells hb2 z9
  replace z10 := below_cells hb2 z10
  replace z11 := below_cells hb2 z11
  replace z12 := below_cells hb2 z12
  replace z13 := below_cells hb2 z13
  replace z14 := below_cells hb2 z14
  replace z15 := below_cells hb2 z15
  clear hb2 SO hW1 V1 BW
  go_wp2_with fail
  cases b with
  | false =>
    have hR2 : Hid (rightN n = false) := Lib.hid (by rw [hR.out]; rfl)
    clear hR
    obtain ⟨W3, hW3⟩ : ∃ W3, W3 = (W2.alloc (.cells #[.string nm, .int .i64 fl] 134)).drew := ⟨_, rfl⟩
    have HB : Below W2.heap.size W2 W3 := by rw [hW3]; exact ((Below.refl _ _).alloc (Nat.le_refl _) _).drew
    have y0 : W3.cell? ⟨W2.heap.size, 0, none⟩ = some (.string nm) := by rw [hW3]; go_simp
    have y1 : W3.cell? ⟨W2.heap.size, 1, none⟩ = some (.int .i64 fl) := by rw [hW3]; go_simp
    replace z0 := below_cells HB z0
    replace z1 := below_cells HB z1
    replace z2 := below_cells HB z2
    replace z3 := below_cells HB z3
    replace z4 := below_cells HB z4
    replace z5 := below_cells HB z5
    replace z6 := below_cells HB z6
    replace z7 := below_cells HB z7
    replace z8 := below_cells HB z8
    replace z9 := below_cells HB z9
    replace z10 := below_cells HB z10
    replace z11 := below_cells HB z11
    replace z12 := below_cells HB z12
    replace z13 := below_cells HB z13
    replace z14 := below_cells HB z14
    replace z15 := below_cells HB z15
    have HW := Lib.hid hW3
    have hbd := Below.refl W3.heap.size W3
    have B3 := Lib.hid (B2.out.trans (HB.mono B2.out.size))
    have V3 := Lib.hid (V2.out.below HB)
    clear hW3 HB
    refine region_go (fun w' => w'.cell? ⟨W2.heap.size, 0, none⟩ = some (.string nm) ∧ w'.cell? ⟨W2.heap.size, 1, none⟩ = some (.int .i64 fl) ∧ w'.cell? ⟨W.heap.size, 0, none⟩ = some (.int .u8 n.kind) ∧ w'.cell? ⟨W.heap.size, 1, none⟩ = some (.int .u64 n.txn) ∧ w'.cell? ⟨W.heap.size, 2, none⟩ = some (.int .u64 n.batch) ∧ w'.cell? ⟨W.heap.size, 3, none⟩ = some (.int .u64 n.stamp) ∧ w'.cell? ⟨W.heap.size, 4, none⟩ = some (.int .u64 n.after) ∧ w'.cell? ⟨W.heap.size, 5, none⟩ = some (.int .u64 n.mark) ∧ w'.cell? ⟨W.heap.size, 6, none⟩ = some (.int .u64 n.query) ∧ w'.cell? ⟨W.heap.size, 7, none⟩ = some (.int .u64 n.id) ∧ w'.cell? ⟨W.heap.size, 8, none⟩ = some (.int .i64 n.k) ∧ w'.cell? ⟨W.heap.size, 9, none⟩ = some (.int .i64 n.ef) ∧ w'.cell? ⟨W.heap.size, 10, none⟩ = some (.int .i64 n.code) ∧ w'.cell? ⟨W.heap.size, 11, none⟩ = some (.int .i64 n.who) ∧ w'.cell? ⟨W.heap.size, 12, none⟩ = some (.slice p0 n.parts.length q0) ∧ w'.cell? ⟨W.heap.size, 13, none⟩ = some (.slice p1 n.ops.length q1) ∧ w'.cell? ⟨W.heap.size, 14, none⟩ = some (.slice p2 n.vec.length q2) ∧ w'.cell? ⟨W.heap.size, 15, none⟩ = some (.slice p3 n.hits.length q3)) (by kernel_rfl) ?hS0 (fun hH => ?_)
    case hS0 =>
      rw [← HW.out]; exact ⟨y0, y1, z0, z1, z2, z3, z4, z5, z6, z7, z8, z9, z10, z11, z12, z13, z14, z15⟩
    rw [← HW.out] at hH ⊢
    refine kY 0 hH ?_
    repeat simp only [Act.put, uA1, uB1, uC1]
    refine kY 1 hH ?_
    repeat simp only [Act.put, uA1, uB1, uC1]
    refine kY 2 hH ?_ (v := (.bool false)) (hy := by intro w hS; (try dsimp only at hS); go_simp; (exact hq.out.2 (by simp)); try with_reducible rfl)
    repeat simp only [Act.put, uA1, uB1, uC1]
    refine kY 3 hH ?_
    repeat simp only [Act.put, uA1, uB1, uC1]
    refine kN 4 hH ?_
    repeat simp only [Act.put, uA1, uB1, uC1]
    refine kN 6 hH ?_
    repeat simp only [Act.put, uA1, uB1, uC1]
    refine kN 7 hH ?_
    repeat simp only [Act.put, uA1, uB1, uC1]
    refine kN 5 hH ?_
    repeat simp only [Act.put, uA1, uB1, uC1]
    refine kN 8 hH ?_
    repeat simp only [Act.put, uA1, uB1, uC1]
    refine kN 9 hH ?_
    repeat simp only [Act.put, uA1, uB1, uC1]
    refine kY 10 hH ?_
    repeat simp only [Act.put, uA1, uB1, uC1]
    refine kY 11 hH ?_
    repeat simp only [Act.put, uA1, uB1, uC1]
    refine kN 12 hH ?_
    repeat simp only [Act.put, uA1, uB1, uC1]
    refine kN 13 hH ?_
    repeat simp only [Act.put, uA1, uB1, uC1]
    refine kY 14 hH ?_
    repeat simp only [Act.put, uA1, uB1, uC1]
    refine kY 15 hH ?_
    repeat simp only [Act.put, uA1, uB1, uC1]
    refine wpAnyH_done (by decide +kernel) ?_ _
    have B4 := Lib.hid (B3.out.trans (hbd.mono B3.out.size))
    clear hH hbd HW y0 y1 z0 z1 z2 z3 z4 z5 z6 z7 z8 z9 z10 z11 z12 z13 z14 z15
    go_wp2_with fail
    go_ret
    exact ⟨ret_bool hR2.out.symm, B4.out⟩
  | true =>
    by_cases h0 : X = 0
    · have hX0 := Lib.hid h0
      have hR2 : Hid (rightN n = boundedB n) := Lib.hid (by rw [hR.out, h0]; rfl)
      clear hR h0
      obtain ⟨W3, hW3⟩ : ∃ W3, W3 = (W2.alloc (.cells #[.string nm, .int .i64 fl] 134)).drew := ⟨_, rfl⟩
      have HB : Below W2.heap.size W2 W3 := by rw [hW3]; exact ((Below.refl _ _).alloc (Nat.le_refl _) _).drew
      have y0 : W3.cell? ⟨W2.heap.size, 0, none⟩ = some (.string nm) := by rw [hW3]; go_simp
      have y1 : W3.cell? ⟨W2.heap.size, 1, none⟩ = some (.int .i64 fl) := by rw [hW3]; go_simp
      replace z0 := below_cells HB z0
      replace z1 := below_cells HB z1
      replace z2 := below_cells HB z2
      replace z3 := below_cells HB z3
      replace z4 := below_cells HB z4
      replace z5 := below_cells HB z5
      replace z6 := below_cells HB z6
      replace z7 := below_cells HB z7
      replace z8 := below_cells HB z8
      replace z9 := below_cells HB z9
      replace z10 := below_cells HB z10
      replace z11 := below_cells HB z11
      replace z12 := below_cells HB z12
      replace z13 := below_cells HB z13
      replace z14 := below_cells HB z14
      replace z15 := below_cells HB z15
      have HW := Lib.hid hW3
      have hbd := Below.refl W3.heap.size W3
      have B3 := Lib.hid (B2.out.trans (HB.mono B2.out.size))
      have V3 := Lib.hid (V2.out.below HB)
      clear hW3 HB
      refine region_go (fun w' => w'.cell? ⟨W2.heap.size, 0, none⟩ = some (.string nm) ∧ w'.cell? ⟨W2.heap.size, 1, none⟩ = some (.int .i64 fl) ∧ w'.cell? ⟨W.heap.size, 0, none⟩ = some (.int .u8 n.kind) ∧ w'.cell? ⟨W.heap.size, 1, none⟩ = some (.int .u64 n.txn) ∧ w'.cell? ⟨W.heap.size, 2, none⟩ = some (.int .u64 n.batch) ∧ w'.cell? ⟨W.heap.size, 3, none⟩ = some (.int .u64 n.stamp) ∧ w'.cell? ⟨W.heap.size, 4, none⟩ = some (.int .u64 n.after) ∧ w'.cell? ⟨W.heap.size, 5, none⟩ = some (.int .u64 n.mark) ∧ w'.cell? ⟨W.heap.size, 6, none⟩ = some (.int .u64 n.query) ∧ w'.cell? ⟨W.heap.size, 7, none⟩ = some (.int .u64 n.id) ∧ w'.cell? ⟨W.heap.size, 8, none⟩ = some (.int .i64 n.k) ∧ w'.cell? ⟨W.heap.size, 9, none⟩ = some (.int .i64 n.ef) ∧ w'.cell? ⟨W.heap.size, 10, none⟩ = some (.int .i64 n.code) ∧ w'.cell? ⟨W.heap.size, 11, none⟩ = some (.int .i64 n.who) ∧ w'.cell? ⟨W.heap.size, 12, none⟩ = some (.slice p0 n.parts.length q0) ∧ w'.cell? ⟨W.heap.size, 13, none⟩ = some (.slice p1 n.ops.length q1) ∧ w'.cell? ⟨W.heap.size, 14, none⟩ = some (.slice p2 n.vec.length q2) ∧ w'.cell? ⟨W.heap.size, 15, none⟩ = some (.slice p3 n.hits.length q3)) (by kernel_rfl) ?hS0 (fun hH => ?_)
      case hS0 =>
        rw [← HW.out]; exact ⟨y0, y1, z0, z1, z2, z3, z4, z5, z6, z7, z8, z9, z10, z11, z12, z13, z14, z15⟩
      rw [← HW.out] at hH ⊢
      refine kY 0 hH ?_
      repeat simp only [Act.put, uA1, uB1, uC1]
      refine kY 1 hH ?_
      repeat simp only [Act.put, uA1, uB1, uC1]
      refine kY 2 hH ?_ (v := (.bool true)) (hy := by intro w hS; (try dsimp only at hS); go_simp; (exact fun h => hq.out.1 h rfl); try with_reducible rfl)
      repeat simp only [Act.put, uA1, uB1, uC1]
      refine kY 3 hH ?_
      repeat simp only [Act.put, uA1, uB1, uC1]
      refine kY 4 hH ?_
      repeat simp only [Act.put, uA1, uB1, uC1]
      refine kY 6 hH ?_
      repeat simp only [Act.put, uA1, uB1, uC1]
      refine kY 7 hH ?_
      repeat simp only [Act.put, uA1, uB1, uC1]
      refine spk 5 rfl (by decide +kernel) (by rfl) (fun K' hK => ?_)
      go_simp
      refine (held n p0 p1 p2 p3 q0 q1 q2 q3 _ HL.out).mono ?_
      rintro e w5 ⟨rfl, hb5⟩
      replace hbd := hbd.trans (hb5.mono hbd.size)
      clear hb5
      try dsimp only
      refine hK.out _ _ ?hS (fun hH' => ?_)
      case hS =>
        exact ⟨below_cells hbd y0, below_cells hbd y1, below_cells hbd z0, below_cells hbd z1, below_cells hbd z2, below_cells hbd z3, below_cells hbd z4, below_cells hbd z5, below_cells hbd z6, below_cells hbd z7, below_cells hbd z8, below_cells hbd z9, below_cells hbd z10, below_cells hbd z11, below_cells hbd z12, below_cells hbd z13, below_cells hbd z14, below_cells hbd z15⟩
      clear hK K' hH; have hH := hH'; clear hH'; repeat simp only [Act.put, uA1, uB1, uC1]
      refine kY 8 hH ?_
      repeat simp only [Act.put, uA1, uB1, uC1]
      refine kY 9 hH ?_ (v := (.bool true)) (hy := by intro w hS; (try dsimp only at hS); go_simp; (first | exact hX0.out | (rw [hX]; exact hX0.out)); try with_reducible rfl)
      repeat simp only [Act.put, uA1, uB1, uC1]
      refine kY 10 hH ?_
      repeat simp only [Act.put, uA1, uB1, uC1]
      refine kY 11 hH ?_
      repeat simp only [Act.put, uA1, uB1, uC1]
      refine kY 12 hH ?_
      repeat simp only [Act.put, uA1, uB1, uC1]
      refine spk 13 rfl (by decide +kernel) (by rfl) (fun K' hK => ?_)
      go_simp
      refine (bounded n F _ _ _ _ _ (V3.out.below hbd)).mono ?_
      rintro e w6 ⟨rfl, hb6⟩
      replace hbd := hbd.trans (hb6.mono hbd.size)
      clear hb6
      try dsimp only
      refine hK.out _ _ ?hS (fun hH' => ?_)
      case hS =>
        exact ⟨below_cells hbd y0, below_cells hbd y1, below_cells hbd z0, below_cells hbd z1, below_cells hbd z2, below_cells hbd z3, below_cells hbd z4, below_cells hbd z5, below_cells hbd z6, below_cells hbd z7, below_cells hbd z8, below_cells hbd z9, below_cells hbd z10, below_cells hbd z11, below_cells hbd z12, below_cells hbd z13, below_cells hbd z14, below_cells hbd z15⟩
      clear hK K' hH; have hH := hH'; clear hH'; repeat simp only [Act.put, uA1, uB1, uC1]
      refine kY 14 hH ?_
      repeat simp only [Act.put, uA1, uB1, uC1]
      refine kY 15 hH ?_
      repeat simp only [Act.put, uA1, uB1, uC1]
      refine wpAnyH_done (by decide +kernel) ?_ _
      have B4 := Lib.hid (B3.out.trans (hbd.mono B3.out.size))
      clear hH hbd HW y0 y1 z0 z1 z2 z3 z4 z5 z6 z7 z8 z9 z10 z11 z12 z13 z14 z15
      go_wp2_with fail
      go_ret
      exact ⟨ret_bool hR2.out.symm, B4.out⟩
    · have hX0 := Lib.hid h0
      have hR2 : Hid (rightN n = false) := Lib.hid (by rw [hR.out, beq_eq_false_iff_ne.2 h0]; rfl)
      clear hR h0
      obtain ⟨W3, hW3⟩ : ∃ W3, W3 = (W2.alloc (.cells #[.string nm, .int .i64 fl] 134)).drew := ⟨_, rfl⟩
      have HB : Below W2.heap.size W2 W3 := by rw [hW3]; exact ((Below.refl _ _).alloc (Nat.le_refl _) _).drew
      have y0 : W3.cell? ⟨W2.heap.size, 0, none⟩ = some (.string nm) := by rw [hW3]; go_simp
      have y1 : W3.cell? ⟨W2.heap.size, 1, none⟩ = some (.int .i64 fl) := by rw [hW3]; go_simp
      replace z0 := below_cells HB z0
      replace z1 := below_cells HB z1
      replace z2 := below_cells HB z2
      replace z3 := below_cells HB z3
      replace z4 := below_cells HB z4
      replace z5 := below_cells HB z5
      replace z6 := below_cells HB z6
      replace z7 := below_cells HB z7
      replace z8 := below_cells HB z8
      replace z9 := below_cells HB z9
      replace z10 := below_cells HB z10
      replace z11 := below_cells HB z11
      replace z12 := below_cells HB z12
      replace z13 := below_cells HB z13
      replace z14 := below_cells HB z14
      replace z15 := below_cells HB z15
      have HW := Lib.hid hW3
      have hbd := Below.refl W3.heap.size W3
      have B3 := Lib.hid (B2.out.trans (HB.mono B2.out.size))
      have V3 := Lib.hid (V2.out.below HB)
      clear hW3 HB
      refine region_go (fun w' => w'.cell? ⟨W2.heap.size, 0, none⟩ = some (.string nm) ∧ w'.cell? ⟨W2.heap.size, 1, none⟩ = some (.int .i64 fl) ∧ w'.cell? ⟨W.heap.size, 0, none⟩ = some (.int .u8 n.kind) ∧ w'.cell? ⟨W.heap.size, 1, none⟩ = some (.int .u64 n.txn) ∧ w'.cell? ⟨W.heap.size, 2, none⟩ = some (.int .u64 n.batch) ∧ w'.cell? ⟨W.heap.size, 3, none⟩ = some (.int .u64 n.stamp) ∧ w'.cell? ⟨W.heap.size, 4, none⟩ = some (.int .u64 n.after) ∧ w'.cell? ⟨W.heap.size, 5, none⟩ = some (.int .u64 n.mark) ∧ w'.cell? ⟨W.heap.size, 6, none⟩ = some (.int .u64 n.query) ∧ w'.cell? ⟨W.heap.size, 7, none⟩ = some (.int .u64 n.id) ∧ w'.cell? ⟨W.heap.size, 8, none⟩ = some (.int .i64 n.k) ∧ w'.cell? ⟨W.heap.size, 9, none⟩ = some (.int .i64 n.ef) ∧ w'.cell? ⟨W.heap.size, 10, none⟩ = some (.int .i64 n.code) ∧ w'.cell? ⟨W.heap.size, 11, none⟩ = some (.int .i64 n.who) ∧ w'.cell? ⟨W.heap.size, 12, none⟩ = some (.slice p0 n.parts.length q0) ∧ w'.cell? ⟨W.heap.size, 13, none⟩ = some (.slice p1 n.ops.length q1) ∧ w'.cell? ⟨W.heap.size, 14, none⟩ = some (.slice p2 n.vec.length q2) ∧ w'.cell? ⟨W.heap.size, 15, none⟩ = some (.slice p3 n.hits.length q3)) (by kernel_rfl) ?hS0 (fun hH => ?_)
      case hS0 =>
        rw [← HW.out]; exact ⟨y0, y1, z0, z1, z2, z3, z4, z5, z6, z7, z8, z9, z10, z11, z12, z13, z14, z15⟩
      rw [← HW.out] at hH ⊢
      refine kY 0 hH ?_
      repeat simp only [Act.put, uA1, uB1, uC1]
      refine kY 1 hH ?_
      repeat simp only [Act.put, uA1, uB1, uC1]
      refine kY 2 hH ?_ (v := (.bool true)) (hy := by intro w hS; (try dsimp only at hS); go_simp; (exact fun h => hq.out.1 h rfl); try with_reducible rfl)
      repeat simp only [Act.put, uA1, uB1, uC1]
      refine kY 3 hH ?_
      repeat simp only [Act.put, uA1, uB1, uC1]
      refine kY 4 hH ?_
      repeat simp only [Act.put, uA1, uB1, uC1]
      refine kY 6 hH ?_
      repeat simp only [Act.put, uA1, uB1, uC1]
      refine kY 7 hH ?_
      repeat simp only [Act.put, uA1, uB1, uC1]
      refine spk 5 rfl (by decide +kernel) (by rfl) (fun K' hK => ?_)
      go_simp
      refine (held n p0 p1 p2 p3 q0 q1 q2 q3 _ HL.out).mono ?_
      rintro e w5 ⟨rfl, hb5⟩
      replace hbd := hbd.trans (hb5.mono hbd.size)
      clear hb5
      try dsimp only
      refine hK.out _ _ ?hS (fun hH' => ?_)
      case hS =>
        exact ⟨below_cells hbd y0, below_cells hbd y1, below_cells hbd z0, below_cells hbd z1, below_cells hbd z2, below_cells hbd z3, below_cells hbd z4, below_cells hbd z5, below_cells hbd z6, below_cells hbd z7, below_cells hbd z8, below_cells hbd z9, below_cells hbd z10, below_cells hbd z11, below_cells hbd z12, below_cells hbd z13, below_cells hbd z14, below_cells hbd z15⟩
      clear hK K' hH; have hH := hH'; clear hH'; repeat simp only [Act.put, uA1, uB1, uC1]
      refine kY 8 hH ?_
      repeat simp only [Act.put, uA1, uB1, uC1]
      refine kY 9 hH ?_ (v := (.bool false)) (hy := by intro w hS; (try dsimp only at hS); go_simp; (first | exact hX0.out | (rw [hX]; exact hX0.out)); try with_reducible rfl)
      repeat simp only [Act.put, uA1, uB1, uC1]
      refine kY 10 hH ?_
      repeat simp only [Act.put, uA1, uB1, uC1]
      refine kY 11 hH ?_
      repeat simp only [Act.put, uA1, uB1, uC1]
      refine kN 12 hH ?_
      repeat simp only [Act.put, uA1, uB1, uC1]
      refine kN 13 hH ?_
      repeat simp only [Act.put, uA1, uB1, uC1]
      refine kY 14 hH ?_
      repeat simp only [Act.put, uA1, uB1, uC1]
      refine kY 15 hH ?_
      repeat simp only [Act.put, uA1, uB1, uC1]
      refine wpAnyH_done (by decide +kernel) ?_ _
      have B4 := Lib.hid (B3.out.trans (hbd.mono B3.out.size))
      clear hH hbd HW y0 y1 z0 z1 z2 z3 z4 z5 z6 z7 z8 z9 z10 z11 z12 z13 z14 z15
      go_wp2_with fail
      go_ret
      exact ⟨ret_bool hR2.out.symm, B4.out⟩

end Go.Proofs.YtfmlhdikagogcaaDoor
