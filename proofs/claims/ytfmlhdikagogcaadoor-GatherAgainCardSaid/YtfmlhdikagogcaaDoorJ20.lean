/-
  note: the document's Right, of a Query and of a Seen: the walk.
-/
import Derived.Test.YtfmlhdikagogcaaDoorJ09
import Derived.Test.YtfmlhdikagogcaaDoorJ11
import Derived.Test.YtfmlhdikagogcaaDoorJ18
import Derived.Test.YtfmlhdikagogcaaDoorJ19
namespace Go.Proofs.YtfmlhdikagogcaaDoor
open Go.RowKit
set_option maxRecDepth 20000

def signsK (n : Nt) : Bool := decide (0 ≤ n.k) && decide (0 ≤ n.ef) && decide (0 ≤ n.code) && decide (0 ≤ n.who)
def numsK (n : Nt) : Bool := numB n.kind 116 n.txn 18446744073709551615 && numB n.kind 98 n.batch 18446744073709551615 && numB n.kind 115 n.stamp 1099511627776 && numB n.kind 97 n.after 1099511627776 && numB n.kind 109 n.mark 1099511627776 && numB n.kind 113 n.query 18446744073709551615 && numB n.kind 105 n.id 1099511627776 && numB n.kind 107 n.k 16 && numB n.kind 101 n.ef 256 && numB n.kind 99 n.code 13 && numB n.kind 119 n.who 15
def lensK (n : Nt) : Bool := numsK n && numB n.kind 112 (n.parts.length : Int) 4 && numB n.kind 111 (n.ops.length : Int) 16 && numB n.kind 118 (n.vec.length : Int) 8 && numB n.kind 104 (n.hits.length : Int) 16 && (decide (n.vec.length = 0) || rightB n.vec)
def rgtB (n : Nt) : Bool := signsK n && lensK n && partsB n.parts && !n.ops.any badOp && !n.hits.any badHit

theorem put_o {a b : Act} {i j : Nat} {v u : Value} (h : b = Act.put a (some i) v) (hne : i ≠ j) (e : tmpOf a j = u) : tmpOf b j = u := by rw [h, tmpOf_put_other _ _ _ _ hne]; exact e

theorem put_s {a b : Act} {i : Nat} {v : Value} (h : b = Act.put a (some i) v) (hi : i < a.tmps.size) : tmpOf b i = v := by rw [h]; exact tmpOf_put_same _ _ _ hi

theorem fr_s {a0 a b : Act} {i : Nat} {v : Value} {scr : List Nat} (h : b = Act.put a (some i) v) (f : Fr a0 a scr) (hd : scr.contains i = true) : Fr a0 b scr := by rw [h]; exact f.put i v hd

theorem u64_wrap (x : Int) (h : 0 ≤ x ∧ x ≤ 9223372036854775807) : IntKind.u64.wrap x = x := by simp only [IntKind.wrap, IntKind.bits, IntKind.signed]; simp; omega

theorem explode219 (a : Act) (h : a.tmps.size = 219) (hd : a.defers = []) : ∃ f : Nat → Value, a = ⟨#[f 0, f 1, f 2, f 3, f 4, f 5, f 6, f 7, f 8, f 9, f 10, f 11, f 12, f 13, f 14, f 15, f 16, f 17, f 18, f 19, f 20, f 21, f 22, f 23, f 24, f 25, f 26, f 27, f 28, f 29, f 30, f 31, f 32, f 33, f 34, f 35, f 36, f 37, f 38, f 39, f 40, f 41, f 42, f 43, f 44, f 45, f 46, f 47, f 48, f 49, f 50, f 51, f 52, f 53, f 54, f 55, f 56, f 57, f 58, f 59, f 60, f 61, f 62, f 63, f 64, f 65, f 66, f 67, f 68, f 69, f 70, f 71, f 72, f 73, f 74, f 75, f 76, f 77, f 78, f 79, f 80, f 81, f 82, f 83, f 84, f 85, f 86, f 87, f 88, f 89, f 90, f 91, f 92, f 93, f 94, f 95, f 96, f 97, f 98, f 99, f 100, f 101, f 102, f 103, f 104, f 105, f 106, f 107, f 108, f 109, f 110, f 111, f 112, f 113, f 114, f 115, f 116, f 117, f 118, f 119, f 120, f 121, f 122, f 123, f 124, f 125, f 126, f 127, f 128, f 129, f 130, f 131, f 132, f 133, f 134, f 135, f 136, f 137, f 138, f 139, f 140, f 141, f 142, f 143, f 144, f 145, f 146, f 147, f 148, f 149, f 150, f 151, f 152, f 153, f 154, f 155, f 156, f 157, f 158, f 159, f 160, f 161, f 162, f 163, f 164, f 165, f 166, f 167, f 168, f 169, f 170, f 171, f 172, f 173, f 174, f 175, f 176, f 177, f 178, f 179, f 180, f 181, f 182, f 183, f 184, f 185, f 186, f 187, f 188, f 189, f 190, f 191, f 192, f 193, f 194, f 195, f 196, f 197, f 198, f 199, f 200, f 201, f 202, f 203, f 204, f 205, f 206, f 207, f 208, f 209, f 210, f 211, f 212, f 213, f 214, f 215, f 216, f 217, f 218], []⟩ ∧ ∀ j, tmpOf a j = f j := by
  refine ⟨tmpOf a, ?_, fun _ => rfl⟩
  obtain ⟨t, d⟩ := a
  simp only at h hd
  subst hd
  exact congrArg (fun x => Act.mk x []) ((list_tmp t 219 h).trans rfl)

theorem all_range_succ (k : Nat) (p : Nat → Bool) : (List.range (k + 1)).all p = ((List.range k).all p && p k) := by
  rw [List.range_succ, List.all_append]
  simp

theorem any_take_succ {α : Type} (l : List α) (p : α → Bool) (j : Nat) (h : j < l.length) : (l.take (j + 1)).any p = ((l.take j).any p || p l[j]) := by
  rw [List.take_succ_eq_append_getElem h, List.any_append]
  simp

theorem bareB_eq (xs : List Int) : bareB xs = (decide (xs.length = 0) || rightB xs) := by
  unfold bareB
  congr 1

def scrR6 : List Nat := [6, 110, 111, 112, 113, 114, 115, 116, 117, 118, 119, 120, 121, 122, 123, 124, 125, 126, 127, 128, 129, 130, 131, 132, 133, 134, 135, 136, 137, 138, 139, 140, 141, 142, 143, 144, 145, 146, 147]

def scrR5 : List Nat := [6, 42, 43, 44, 45, 46, 47, 48, 49, 50, 51, 52, 53, 54, 55, 56, 57, 58, 59, 60, 61, 62, 63, 64, 65, 66, 67, 68, 69, 70, 71, 72, 73, 74, 75, 76, 77, 78, 79, 80, 81, 82, 83, 84, 85, 86, 87, 88, 89, 90, 91, 92, 93, 94, 95, 96, 97, 98, 99, 100, 101, 102, 103, 104, 105, 106, 107, 108, 109]

set_option maxHeartbeats 40000000 in
theorem refRightN (n : Nt) (hk : n.kind = 8 ∨ n.kind = 10) (hf : n.Fits) (F : Nat → Prop) (vp vo vv vh : Value) (W : World) (hv : NoteV W F n vp vo vv vh) :
    Calls Tryd.prog 20 #[.agg (n.cells vp vo vv vh)] W fun e w' => e = .returned (.bool (rgtB n)) ∧ Below W.heap.size W w' := by
  obtain ⟨p0, q0, rfl, a0, b0, -, -⟩ := hv.parts.slice
  obtain ⟨p1, q1, rfl, a1, b1, -, -⟩ := id hv.ops
  obtain ⟨p2, q2, rfl, a2, b2, -, -⟩ := hv.vec.slice
  obtain ⟨p3, q3, rfl, a3, b3, -, -⟩ := id hv.hits
  have V := Lib.hid hv
  have l0 : n.parts.length ≤ 9223372036854775807 := by omega
  have l1 : n.ops.length ≤ 9223372036854775807 := by omega
  have l2 : n.vec.length ≤ 9223372036854775807 := by omega
  have l3 : n.hits.length ≤ 9223372036854775807 := by omega
  have FT := Lib.hid hf
  have NK := Lib.hid (fun w => nameK n.kind hk w)
  have HK := Lib.hid hk
  have hnm : ¬ (kname n.kind).toList = [] := by rcases hk with h | h <;> (rw [h, ByteArray.toList_eq]; decide)
  obtain ⟨nm, hnme⟩ : ∃ nm, nm = kname n.kind := ⟨_, rfl⟩
  rw [← hnme] at hnm NK
  have hne : nm.toList.isEmpty = false := by rw [Bool.eq_false_iff]; intro h; exact hnm (List.isEmpty_iff.1 h)
  clear a0 b0 a1 b1 a2 b2 a3 b3 hv hf hk hnme
  unfold Nt.cells
  go_enter Tryd.func20, Tryd.ntmps20
  go_upto_region 1 with fail
  obtain ⟨W1, hW1⟩ : ∃ W1, W1 = W.alloc (.cells #[.int .u8 n.kind, .int .u64 n.txn, .int .u64 n.batch, .int .u64 n.stamp, .int .u64 n.after, .int .u64 n.mark, .int .u64 n.query, .int .u64 n.id, .int .i64 n.k, .int .i64 n.ef, .int .i64 n.code, .int .i64 n.who, .slice p0 n.parts.length q0, .slice p1 n.ops.length q1, .slice p2 n.vec.length q2, .slice p3 n.hits.length q3] 53) := ⟨_, rfl⟩
  have BW : Hid (Below W.heap.size W W1) := by rw [hW1]; exact (Below.refl _ _).alloc (Nat.le_refl _) _
  have z0 : W1.cell? ⟨W.heap.size, 0, none⟩ = some (.int .u8 n.kind) := by rw [hW1]; go_simp
  have z1 : W1.cell? ⟨W.heap.size, 1, none⟩ = some (.int .u64 n.txn) := by rw [hW1]; go_simp
  have z2 : W1.cell? ⟨W.heap.size, 2, none⟩ = some (.int .u64 n.batch) := by rw [hW1]; go_simp
  have z3 : W1.cell? ⟨W.heap.size, 3, none⟩ = some (.int .u64 n.stamp) := by rw [hW1]; go_simp
  have z4 : W1.cell? ⟨W.heap.size, 4, none⟩ = some (.int .u64 n.after) := by rw [hW1]; go_simp
  have z5 : W1.cell? ⟨W.heap.size, 5, none⟩ = some (.int .u64 n.mark) := by rw [hW1]; go_simp
  have z6 : W1.cell? ⟨W.heap.size, 6, none⟩ = some (.int .u64 n.query) := by rw [hW1]; go_simp
  have z7 : W1.cell? ⟨W.heap.size, 7, none⟩ = some (.int .u64 n.id) := by rw [hW1]; go_simp
  have z8 : W1.cell? ⟨W.heap.size, 8, none⟩ = some (.int .i64 n.k) := by rw [hW1]; go_simp
  have z9 : W1.cell? ⟨W.heap.size, 9, none⟩ = some (.int .i64 n.ef) := by rw [hW1]; go_simp
  have z10 : W1.cell? ⟨W.heap.size, 10, none⟩ = some (.int .i64 n.code) := by rw [hW1]; go_simp
  have z11 : W1.cell? ⟨W.heap.size, 11, none⟩ = some (.int .i64 n.who) := by rw [hW1]; go_simp
  have z12 : W1.cell? ⟨W.heap.size, 12, none⟩ = some (.slice p0 n.parts.length q0) := by rw [hW1]; go_simp
  have z13 : W1.cell? ⟨W.heap.size, 13, none⟩ = some (.slice p1 n.ops.length q1) := by rw [hW1]; go_simp
  have z14 : W1.cell? ⟨W.heap.size, 14, none⟩ = some (.slice p2 n.vec.length q2) := by rw [hW1]; go_simp
  have z15 : W1.cell? ⟨W.heap.size, 15, none⟩ = some (.slice p3 n.hits.length q3) := by rw [hW1]; go_simp
  rw [← hW1]
  clear hW1
  have V1 := Lib.hid (V.out.below BW.out)
  have NK1 := Lib.hid (NK.out W1)
  go_wp2_with fail
  with_reducible refine NK1.out.mono ?_
  rintro e w' ⟨rfl, rfl⟩
  by_cases sk : n.k < 0
  · have ddk : decide (n.k < 0) = true := decide_eq_true sk
    have S0 := Lib.hid (show signsK n = false by unfold signsK; rw [decide_eq_false (show ¬ 0 ≤ n.k by omega)]; simp)
    go_wp2_with fail
    go_ret
    exact ⟨ret_bool (by unfold rgtB; rw [S0.out]; rfl), BW.out⟩
  have ddk : decide (n.k < 0) = false := decide_eq_false sk
  by_cases sef : n.ef < 0
  · have ddef : decide (n.ef < 0) = true := decide_eq_true sef
    have S0 := Lib.hid (show signsK n = false by unfold signsK; rw [decide_eq_false (show ¬ 0 ≤ n.ef by omega)]; simp)
    go_wp2_with fail
    go_ret
    exact ⟨ret_bool (by unfold rgtB; rw [S0.out]; rfl), BW.out⟩
  have ddef : decide (n.ef < 0) = false := decide_eq_false sef
  by_cases scode : n.code < 0
  · have ddcode : decide (n.code < 0) = true := decide_eq_true scode
    have S0 := Lib.hid (show signsK n = false by unfold signsK; rw [decide_eq_false (show ¬ 0 ≤ n.code by omega)]; simp)
    go_wp2_with fail
    go_ret
    exact ⟨ret_bool (by unfold rgtB; rw [S0.out]; rfl), BW.out⟩
  have ddcode : decide (n.code < 0) = false := decide_eq_false scode
  by_cases swho : n.who < 0
  · have ddwho : decide (n.who < 0) = true := decide_eq_true swho
    have S0 := Lib.hid (show signsK n = false by unfold signsK; rw [decide_eq_false (show ¬ 0 ≤ n.who by omega)]; simp)
    go_wp2_with fail
    go_ret
    exact ⟨ret_bool (by unfold rgtB; rw [S0.out]; rfl), BW.out⟩
  have ddwho : decide (n.who < 0) = false := decide_eq_false swho
  have S1 := Lib.hid (show signsK n = true by unfold signsK; rw [decide_eq_true (show 0 ≤ n.k by omega), decide_eq_true (show 0 ≤ n.ef by omega), decide_eq_true (show 0 ≤ n.code by omega), decide_eq_true (show 0 ≤ n.who by omega)]; rfl)
  have wk := u64_wrap n.k ⟨by omega, FT.out.k.2⟩
  have wef := u64_wrap n.ef ⟨by omega, FT.out.ef.2⟩
  have wcode := u64_wrap n.code ⟨by omega, FT.out.code.2⟩
  have wwho := u64_wrap n.who ⟨by omega, FT.out.who.2⟩
  have wl0 := u64_wrap (n.parts.length : Int) ⟨by omega, by omega⟩
  have wl1 := u64_wrap (n.ops.length : Int) ⟨by omega, by omega⟩
  have wl2 := u64_wrap (n.vec.length : Int) ⟨by omega, by omega⟩
  have wl3 := u64_wrap (n.hits.length : Int) ⟨by omega, by omega⟩
  go_upto_region 5 with fail
  obtain ⟨t0, ht0⟩ : ∃ t, t = numB n.kind 116 n.txn 18446744073709551615 := ⟨_, rfl⟩
  have N0 := Lib.hid (show Calls Tryd.prog 48 #[.int .u8 n.kind, .int .u8 116, .int .u64 n.txn, .int .u64 18446744073709551615] W1 fun e w' => e = .returned (.bool t0) ∧ W1 = w' from ht0 ▸ numK n.kind 116 n.txn 18446744073709551615 HK.out W1)
  have T0 := Lib.hid ht0.symm
  obtain ⟨t1, ht1⟩ : ∃ t, t = numB n.kind 98 n.batch 18446744073709551615 := ⟨_, rfl⟩
  have N1 := Lib.hid (show Calls Tryd.prog 48 #[.int .u8 n.kind, .int .u8 98, .int .u64 n.batch, .int .u64 18446744073709551615] W1 fun e w' => e = .returned (.bool t1) ∧ W1 = w' from ht1 ▸ numK n.kind 98 n.batch 18446744073709551615 HK.out W1)
  have T1 := Lib.hid ht1.symm
  obtain ⟨t2, ht2⟩ : ∃ t, t = numB n.kind 115 n.stamp 1099511627776 := ⟨_, rfl⟩
  have N2 := Lib.hid (show Calls Tryd.prog 48 #[.int .u8 n.kind, .int .u8 115, .int .u64 n.stamp, .int .u64 1099511627776] W1 fun e w' => e = .returned (.bool t2) ∧ W1 = w' from ht2 ▸ numK n.kind 115 n.stamp 1099511627776 HK.out W1)
  have T2 := Lib.hid ht2.symm
  obtain ⟨t3, ht3⟩ : ∃ t, t = numB n.kind 97 n.after 1099511627776 := ⟨_, rfl⟩
  have N3 := Lib.hid (show Calls Tryd.prog 48 #[.int .u8 n.kind, .int .u8 97, .int .u64 n.after, .int .u64 1099511627776] W1 fun e w' => e = .returned (.bool t3) ∧ W1 = w' from ht3 ▸ numK n.kind 97 n.after 1099511627776 HK.out W1)
  have T3 := Lib.hid ht3.symm
  obtain ⟨t4, ht4⟩ : ∃ t, t = numB n.kind 109 n.mark 1099511627776 := ⟨_, rfl⟩
  have N4 := Lib.hid (show Calls Tryd.prog 48 #[.int .u8 n.kind, .int .u8 109, .int .u64 n.mark, .int .u64 1099511627776] W1 fun e w' => e = .returned (.bool t4) ∧ W1 = w' from ht4 ▸ numK n.kind 109 n.mark 1099511627776 HK.out W1)
  have T4 := Lib.hid ht4.symm
  obtain ⟨t5, ht5⟩ : ∃ t, t = numB n.kind 113 n.query 18446744073709551615 := ⟨_, rfl⟩
  have N5 := Lib.hid (show Calls Tryd.prog 48 #[.int .u8 n.kind, .int .u8 113, .int .u64 n.query, .int .u64 18446744073709551615] W1 fun e w' => e = .returned (.bool t5) ∧ W1 = w' from ht5 ▸ numK n.kind 113 n.query 18446744073709551615 HK.out W1)
  have T5 := Lib.hid ht5.symm
  obtain ⟨t6, ht6⟩ : ∃ t, t = numB n.kind 105 n.id 1099511627776 := ⟨_, rfl⟩
  have N6 := Lib.hid (show Calls Tryd.prog 48 #[.int .u8 n.kind, .int .u8 105, .int .u64 n.id, .int .u64 1099511627776] W1 fun e w' => e = .returned (.bool t6) ∧ W1 = w' from ht6 ▸ numK n.kind 105 n.id 1099511627776 HK.out W1)
  have T6 := Lib.hid ht6.symm
  obtain ⟨t7, ht7⟩ : ∃ t, t = numB n.kind 107 n.k 16 := ⟨_, rfl⟩
  have N7 := Lib.hid (show Calls Tryd.prog 48 #[.int .u8 n.kind, .int .u8 107, .int .u64 n.k, .int .u64 16] W1 fun e w' => e = .returned (.bool t7) ∧ W1 = w' from ht7 ▸ numK n.kind 107 n.k 16 HK.out W1)
  have T7 := Lib.hid ht7.symm
  obtain ⟨t8, ht8⟩ : ∃ t, t = numB n.kind 101 n.ef 256 := ⟨_, rfl⟩
  have N8 := Lib.hid (show Calls Tryd.prog 48 #[.int .u8 n.kind, .int .u8 101, .int .u64 n.ef, .int .u64 256] W1 fun e w' => e = .returned (.bool t8) ∧ W1 = w' from ht8 ▸ numK n.kind 101 n.ef 256 HK.out W1)
  have T8 := Lib.hid ht8.symm
  obtain ⟨t9, ht9⟩ : ∃ t, t = numB n.kind 99 n.code 13 := ⟨_, rfl⟩
  have N9 := Lib.hid (show Calls Tryd.prog 48 #[.int .u8 n.kind, .int .u8 99, .int .u64 n.code, .int .u64 13] W1 fun e w' => e = .returned (.bool t9) ∧ W1 = w' from ht9 ▸ numK n.kind 99 n.code 13 HK.out W1)
  have T9 := Lib.hid ht9.symm
  obtain ⟨t10, ht10⟩ : ∃ t, t = numB n.kind 119 n.who 15 := ⟨_, rfl⟩
  have N10 := Lib.hid (show Calls Tryd.prog 48 #[.int .u8 n.kind, .int .u8 119, .int .u64 n.who, .int .u64 15] W1 fun e w' => e = .returned (.bool t10) ∧ W1 = w' from ht10 ▸ numK n.kind 119 n.who 15 HK.out W1)
  have T10 := Lib.hid ht10.symm
  obtain ⟨t11, ht11⟩ : ∃ t, t = numB n.kind 112 (n.parts.length : Int) 4 := ⟨_, rfl⟩
  have N11 := Lib.hid (show Calls Tryd.prog 48 #[.int .u8 n.kind, .int .u8 112, .int .u64 (n.parts.length : Int), .int .u64 4] W1 fun e w' => e = .returned (.bool t11) ∧ W1 = w' from ht11 ▸ numK n.kind 112 (n.parts.length : Int) 4 HK.out W1)
  have T11 := Lib.hid ht11.symm
  obtain ⟨t12, ht12⟩ : ∃ t, t = numB n.kind 111 (n.ops.length : Int) 16 := ⟨_, rfl⟩
  have N12 := Lib.hid (show Calls Tryd.prog 48 #[.int .u8 n.kind, .int .u8 111, .int .u64 (n.ops.length : Int), .int .u64 16] W1 fun e w' => e = .returned (.bool t12) ∧ W1 = w' from ht12 ▸ numK n.kind 111 (n.ops.length : Int) 16 HK.out W1)
  have T12 := Lib.hid ht12.symm
  obtain ⟨t13, ht13⟩ : ∃ t, t = numB n.kind 118 (n.vec.length : Int) 8 := ⟨_, rfl⟩
  have N13 := Lib.hid (show Calls Tryd.prog 48 #[.int .u8 n.kind, .int .u8 118, .int .u64 (n.vec.length : Int), .int .u64 8] W1 fun e w' => e = .returned (.bool t13) ∧ W1 = w' from ht13 ▸ numK n.kind 118 (n.vec.length : Int) 8 HK.out W1)
  have T13 := Lib.hid ht13.symm
  obtain ⟨t14, ht14⟩ : ∃ t, t = numB n.kind 104 (n.hits.length : Int) 16 := ⟨_, rfl⟩
  have N14 := Lib.hid (show Calls Tryd.prog 48 #[.int .u8 n.kind, .int .u8 104, .int .u64 (n.hits.length : Int), .int .u64 16] W1 fun e w' => e = .returned (.bool t14) ∧ W1 = w' from ht14 ▸ numK n.kind 104 (n.hits.length : Int) 16 HK.out W1)
  have T14 := Lib.hid ht14.symm
  clear ht0 ht1 ht2 ht3 ht4 ht5 ht6 ht7 ht8 ht9 ht10 ht11 ht12 ht13 ht14
  have NN := Lib.hid (And.intro N0 (And.intro N1 (And.intro N2 (And.intro N3 (And.intro N4 (And.intro N5 (And.intro N6 (And.intro N7 (And.intro N8 (And.intro N9 (N10)))))))))))
  have TT := Lib.hid (And.intro T0 (And.intro T1 (And.intro T2 (And.intro T3 (And.intro T4 (And.intro T5 (And.intro T6 (And.intro T7 (And.intro T8 (And.intro T9 (T10)))))))))))
  have NM := Lib.hid (And.intro N11 (And.intro N12 (And.intro N13 (N14))))
  have TM := Lib.hid (And.intro T11 (And.intro T12 (And.intro T13 (T14))))
  have ZZ := Lib.hid (And.intro z12 (And.intro z13 (And.intro z14 z15)))
  clear N0 T0 N1 T1 N2 T2 N3 T3 N4 T4 N5 T5 N6 T6 N7 T7 N8 T8 N9 T9 N10 T10 N11 T11 N12 T12 N13 T13 N14 T14 z12 z13 z14 z15 z0
  refine region_goQ (fun a => a.tmps.size = 219 ∧ a.defers = [] ∧ tmpOf a 1 = .pointer (some ⟨W.heap.size, 0, none⟩) ∧ tmpOf a 3 = .int .u8 n.kind) (fun a => a.tmps.size = 219 ∧ a.defers = [] ∧ tmpOf a 1 = .pointer (some ⟨W.heap.size, 0, none⟩) ∧ tmpOf a 3 = .int .u8 n.kind ∧ tmpOf a 6 = .bool (numsK n)) ⟨rfl, rfl, rfl, rfl⟩ ?chain ?after
  case chain =>
    rintro a0 O Q' ⟨hs0, hd0, e1a0, e3a0⟩ hO hR
    have Fa0 : Fr a0 a0 scrR5 := Fr.refl _ _
    refine pVal 0 (.int .u8 n.kind) hO rfl (wanted_none rfl) (by simp only [execOp, eval_tmpOf, e3a0]; first | rfl | (go_simp; done) | (go_simp; simp only [tmps_get, e3a0]; go_simp)) ?_
    obtain ⟨b1, hb1⟩ : ∃ x, x = Act.put a0 (some 42) (.int .u8 n.kind) := ⟨_, rfl⟩
    have Fb1 := fr_s hb1 Fa0 rfl
    have e42b1 := put_s hb1 (by rw [Fa0.size, hs0]; decide)
    have e1b1 := put_o hb1 (by decide) e1a0
    have e3b1 := put_o hb1 (by decide) e3a0
    refine (show wpFrom Tryd.prog O Q' _ (Act.put a0 (some 42) (.int .u8 n.kind)) W1 from ?_)
    rw [← hb1]
    clear hb1 Fa0
    refine pVal 1 (.pointer (some ⟨W.heap.size, 1, none⟩)) hO rfl (wanted_none rfl) (by simp only [execOp, eval_tmpOf, e1b1]; first | rfl | (go_simp; done) | (go_simp; simp only [tmps_get, e1b1]; go_simp)) ?_
    obtain ⟨b2, hb2⟩ : ∃ x, x = Act.put b1 (some 43) (.pointer (some ⟨W.heap.size, 1, none⟩)) := ⟨_, rfl⟩
    have Fb2 := fr_s hb2 Fb1 rfl
    have e43b2 := put_s hb2 (by rw [Fb1.size, hs0]; decide)
    have e1b2 := put_o hb2 (by decide) e1b1
    have e3b2 := put_o hb2 (by decide) e3b1
    have e42b2 := put_o hb2 (by decide) e42b1
    refine (show wpFrom Tryd.prog O Q' _ (Act.put b1 (some 43) (.pointer (some ⟨W.heap.size, 1, none⟩))) W1 from ?_)
    rw [← hb2]
    clear hb2 Fb1 e1b1 e3b1 e42b1
    refine pVal 2 (.int .u64 n.txn) hO rfl (wanted_none rfl) (by simp only [execOp, eval_tmpOf, e43b2]; first | rfl | (go_simp; done) | (go_simp; simp only [tmps_get, e43b2]; go_simp)) ?_
    obtain ⟨b3, hb3⟩ : ∃ x, x = Act.put b2 (some 44) (.int .u64 n.txn) := ⟨_, rfl⟩
    have Fb3 := fr_s hb3 Fb2 rfl
    have e44b3 := put_s hb3 (by rw [Fb2.size, hs0]; decide)
    have e1b3 := put_o hb3 (by decide) e1b2
    have e3b3 := put_o hb3 (by decide) e3b2
    have e42b3 := put_o hb3 (by decide) e42b2
    have e43b3 := put_o hb3 (by decide) e43b2
    refine (show wpFrom Tryd.prog O Q' _ (Act.put b2 (some 44) (.int .u64 n.txn)) W1 from ?_)
    rw [← hb3]
    clear hb3 Fb2 e1b2 e3b2 e42b2 e43b2
    refine pCall 3 (.bool t0) (args := #[.int .u8 n.kind, .int .u8 116, .int .u64 n.txn, .int .u64 18446744073709551615]) hO rfl (wanted_none rfl) (by simp only [execOp]; go_simp; simp only [tmps_get, e42b3, e44b3, and_self]) NN.out.1.out ?_
    obtain ⟨b4, hb4⟩ : ∃ x, x = Act.put b3 (some 45) (.bool t0) := ⟨_, rfl⟩
    have Fb4 := fr_s hb4 Fb3 rfl
    have e45b4 := put_s hb4 (by rw [Fb3.size, hs0]; decide)
    have e1b4 := put_o hb4 (by decide) e1b3
    have e3b4 := put_o hb4 (by decide) e3b3
    have e42b4 := put_o hb4 (by decide) e42b3
    have e43b4 := put_o hb4 (by decide) e43b3
    have e44b4 := put_o hb4 (by decide) e44b3
    refine (show wpFrom Tryd.prog O Q' _ (Act.put b3 (some 45) (.bool t0)) W1 from ?_)
    rw [← hb4]
    clear hb4 Fb3 e1b3 e3b3 e42b3 e43b3 e44b3
    refine pVal 4 (.bool t0) hO rfl (wanted_none rfl) (by simp only [execOp, eval_tmpOf, e45b4]; first | rfl | (go_simp; done) | (go_simp; simp only [tmps_get, e45b4]; go_simp)) ?_
    obtain ⟨b5, hb5⟩ : ∃ x, x = Act.put b4 (some 46) (.bool t0) := ⟨_, rfl⟩
    have Fb5 := fr_s hb5 Fb4 rfl
    have e46b5 := put_s hb5 (by rw [Fb4.size, hs0]; decide)
    have e1b5 := put_o hb5 (by decide) e1b4
    have e3b5 := put_o hb5 (by decide) e3b4
    have e42b5 := put_o hb5 (by decide) e42b4
    have e43b5 := put_o hb5 (by decide) e43b4
    have e44b5 := put_o hb5 (by decide) e44b4
    have e45b5 := put_o hb5 (by decide) e45b4
    refine (show wpFrom Tryd.prog O Q' _ (Act.put b4 (some 46) (.bool t0)) W1 from ?_)
    rw [← hb5]
    clear hb5 Fb4 e1b4 e3b4 e42b4 e43b4 e44b4 e45b4
    suffices H : ∀ a, Fr a0 a scrR5 → tmpOf a 46 = .bool t0 → wpFrom Tryd.prog O Q' 5 a W1 from H _ Fb5 e46b5
    clear Fb5 e1b5 e3b5 e42b5 e43b5 e44b5 e45b5 e46b5
    intro b6 Fb6 e46b6
    have e1b6 : tmpOf b6 1 = .pointer (some ⟨W.heap.size, 0, none⟩) := (Fb6.agree 1 (by decide)).trans e1a0
    have e3b6 : tmpOf b6 3 = .int .u8 n.kind := (Fb6.agree 3 (by decide)).trans e3a0
    suffices H : ∀ a, Fr a0 a scrR5 → tmpOf a 52 = .bool (t0 && t1) → wpFrom Tryd.prog O Q' 11 a W1 by
      cases t0
      · skip
        refine pSkip 5 hO rfl ((wanted_if (g := 4) (m := 46) (c := false) rfl rfl (by rw [Fb6.size, hs0]; decide) e46b6).trans rfl) ?_
        obtain ⟨b7, hb7⟩ : ∃ x, x = Act.put b6 (some 47) (undef) := ⟨_, rfl⟩
        have Fb7 := fr_s hb7 Fb6 rfl
        have e47b7 := put_s hb7 (by rw [Fb6.size, hs0]; decide)
        have e1b7 := put_o hb7 (by decide) e1b6
        have e3b7 := put_o hb7 (by decide) e3b6
        have e46b7 := put_o hb7 (by decide) e46b6
        refine (show wpFrom Tryd.prog O Q' _ (Act.put b6 (some 47) (undef)) W1 from ?_)
        rw [← hb7]
        clear hb7 Fb6 e1b6 e3b6 e46b6
        refine pSkip 6 hO rfl ((wanted_if (g := 4) (m := 46) (c := false) rfl rfl (by rw [Fb7.size, hs0]; decide) e46b7).trans rfl) ?_
        obtain ⟨b8, hb8⟩ : ∃ x, x = Act.put b7 (some 48) (undef) := ⟨_, rfl⟩
        have Fb8 := fr_s hb8 Fb7 rfl
        have e48b8 := put_s hb8 (by rw [Fb7.size, hs0]; decide)
        have e1b8 := put_o hb8 (by decide) e1b7
        have e3b8 := put_o hb8 (by decide) e3b7
        have e46b8 := put_o hb8 (by decide) e46b7
        have e47b8 := put_o hb8 (by decide) e47b7
        refine (show wpFrom Tryd.prog O Q' _ (Act.put b7 (some 48) (undef)) W1 from ?_)
        rw [← hb8]
        clear hb8 Fb7 e1b7 e3b7 e46b7 e47b7
        refine pSkip 7 hO rfl ((wanted_if (g := 4) (m := 46) (c := false) rfl rfl (by rw [Fb8.size, hs0]; decide) e46b8).trans rfl) ?_
        obtain ⟨b9, hb9⟩ : ∃ x, x = Act.put b8 (some 49) (undef) := ⟨_, rfl⟩
        have Fb9 := fr_s hb9 Fb8 rfl
        have e49b9 := put_s hb9 (by rw [Fb8.size, hs0]; decide)
        have e1b9 := put_o hb9 (by decide) e1b8
        have e3b9 := put_o hb9 (by decide) e3b8
        have e46b9 := put_o hb9 (by decide) e46b8
        have e47b9 := put_o hb9 (by decide) e47b8
        have e48b9 := put_o hb9 (by decide) e48b8
        refine (show wpFrom Tryd.prog O Q' _ (Act.put b8 (some 49) (undef)) W1 from ?_)
        rw [← hb9]
        clear hb9 Fb8 e1b8 e3b8 e46b8 e47b8 e48b8
        refine pSkip 8 hO rfl ((wanted_if (g := 4) (m := 46) (c := false) rfl rfl (by rw [Fb9.size, hs0]; decide) e46b9).trans rfl) ?_
        obtain ⟨b10, hb10⟩ : ∃ x, x = Act.put b9 (some 50) (undef) := ⟨_, rfl⟩
        have Fb10 := fr_s hb10 Fb9 rfl
        have e50b10 := put_s hb10 (by rw [Fb9.size, hs0]; decide)
        have e1b10 := put_o hb10 (by decide) e1b9
        have e3b10 := put_o hb10 (by decide) e3b9
        have e46b10 := put_o hb10 (by decide) e46b9
        have e47b10 := put_o hb10 (by decide) e47b9
        have e48b10 := put_o hb10 (by decide) e48b9
        have e49b10 := put_o hb10 (by decide) e49b9
        refine (show wpFrom Tryd.prog O Q' _ (Act.put b9 (some 50) (undef)) W1 from ?_)
        rw [← hb10]
        clear hb10 Fb9 e1b9 e3b9 e46b9 e47b9 e48b9 e49b9
        refine pVal 9 (.bool false) hO rfl (wanted_none rfl) (by simp only [execOp, eval_tmpOf, eval_const, e46b10, e50b10]; first | rfl | (go_simp; done) | (go_simp; simp only [tmps_get, e46b10, e50b10]; go_simp)) ?_
        obtain ⟨b11, hb11⟩ : ∃ x, x = Act.put b10 (some 51) (.bool false) := ⟨_, rfl⟩
        have Fb11 := fr_s hb11 Fb10 rfl
        have e51b11 := put_s hb11 (by rw [Fb10.size, hs0]; decide)
        have e1b11 := put_o hb11 (by decide) e1b10
        have e3b11 := put_o hb11 (by decide) e3b10
        have e46b11 := put_o hb11 (by decide) e46b10
        have e47b11 := put_o hb11 (by decide) e47b10
        have e48b11 := put_o hb11 (by decide) e48b10
        have e49b11 := put_o hb11 (by decide) e49b10
        have e50b11 := put_o hb11 (by decide) e50b10
        refine (show wpFrom Tryd.prog O Q' _ (Act.put b10 (some 51) (.bool false)) W1 from ?_)
        rw [← hb11]
        clear hb11 Fb10 e1b10 e3b10 e46b10 e47b10 e48b10 e49b10 e50b10
        refine pVal 10 (.bool false) hO rfl (wanted_none rfl) (by simp only [execOp, eval_tmpOf, e51b11]; first | rfl | (go_simp; done) | (go_simp; simp only [tmps_get, e51b11]; go_simp)) ?_
        obtain ⟨b12, hb12⟩ : ∃ x, x = Act.put b11 (some 52) (.bool false) := ⟨_, rfl⟩
        have Fb12 := fr_s hb12 Fb11 rfl
        have e52b12 := put_s hb12 (by rw [Fb11.size, hs0]; decide)
        have e1b12 := put_o hb12 (by decide) e1b11
        have e3b12 := put_o hb12 (by decide) e3b11
        have e46b12 := put_o hb12 (by decide) e46b11
        have e47b12 := put_o hb12 (by decide) e47b11
        have e48b12 := put_o hb12 (by decide) e48b11
        have e49b12 := put_o hb12 (by decide) e49b11
        have e50b12 := put_o hb12 (by decide) e50b11
        have e51b12 := put_o hb12 (by decide) e51b11
        refine (show wpFrom Tryd.prog O Q' _ (Act.put b11 (some 52) (.bool false)) W1 from ?_)
        rw [← hb12]
        clear hb12 Fb11 e1b11 e3b11 e46b11 e47b11 e48b11 e49b11 e50b11 e51b11
        exact H _ Fb12 e52b12
      · skip
        refine pVal 5 (.int .u8 n.kind) hO rfl ((wanted_if (g := 4) (m := 46) (c := true) rfl rfl (by rw [Fb6.size, hs0]; decide) e46b6).trans rfl) (by simp only [execOp, eval_tmpOf, e3b6]; first | rfl | (go_simp; done) | (go_simp; simp only [tmps_get, e3b6]; go_simp)) ?_
        obtain ⟨b13, hb13⟩ : ∃ x, x = Act.put b6 (some 47) (.int .u8 n.kind) := ⟨_, rfl⟩
        have Fb13 := fr_s hb13 Fb6 rfl
        have e47b13 := put_s hb13 (by rw [Fb6.size, hs0]; decide)
        have e1b13 := put_o hb13 (by decide) e1b6
        have e3b13 := put_o hb13 (by decide) e3b6
        have e46b13 := put_o hb13 (by decide) e46b6
        refine (show wpFrom Tryd.prog O Q' _ (Act.put b6 (some 47) (.int .u8 n.kind)) W1 from ?_)
        rw [← hb13]
        clear hb13 Fb6 e1b6 e3b6 e46b6
        refine pVal 6 (.pointer (some ⟨W.heap.size, 2, none⟩)) hO rfl ((wanted_if (g := 4) (m := 46) (c := true) rfl rfl (by rw [Fb13.size, hs0]; decide) e46b13).trans rfl) (by simp only [execOp, eval_tmpOf, e1b13]; first | rfl | (go_simp; done) | (go_simp; simp only [tmps_get, e1b13]; go_simp)) ?_
        obtain ⟨b14, hb14⟩ : ∃ x, x = Act.put b13 (some 48) (.pointer (some ⟨W.heap.size, 2, none⟩)) := ⟨_, rfl⟩
        have Fb14 := fr_s hb14 Fb13 rfl
        have e48b14 := put_s hb14 (by rw [Fb13.size, hs0]; decide)
        have e1b14 := put_o hb14 (by decide) e1b13
        have e3b14 := put_o hb14 (by decide) e3b13
        have e46b14 := put_o hb14 (by decide) e46b13
        have e47b14 := put_o hb14 (by decide) e47b13
        refine (show wpFrom Tryd.prog O Q' _ (Act.put b13 (some 48) (.pointer (some ⟨W.heap.size, 2, none⟩))) W1 from ?_)
        rw [← hb14]
        clear hb14 Fb13 e1b13 e3b13 e46b13 e47b13
        refine pVal 7 (.int .u64 n.batch) hO rfl ((wanted_if (g := 4) (m := 46) (c := true) rfl rfl (by rw [Fb14.size, hs0]; decide) e46b14).trans rfl) (by simp only [execOp, eval_tmpOf, e48b14]; first | rfl | (go_simp; done) | (go_simp; simp only [tmps_get, e48b14]; go_simp)) ?_
        obtain ⟨b15, hb15⟩ : ∃ x, x = Act.put b14 (some 49) (.int .u64 n.batch) := ⟨_, rfl⟩
        have Fb15 := fr_s hb15 Fb14 rfl
        have e49b15 := put_s hb15 (by rw [Fb14.size, hs0]; decide)
        have e1b15 := put_o hb15 (by decide) e1b14
        have e3b15 := put_o hb15 (by decide) e3b14
        have e46b15 := put_o hb15 (by decide) e46b14
        have e47b15 := put_o hb15 (by decide) e47b14
        have e48b15 := put_o hb15 (by decide) e48b14
        refine (show wpFrom Tryd.prog O Q' _ (Act.put b14 (some 49) (.int .u64 n.batch)) W1 from ?_)
        rw [← hb15]
        clear hb15 Fb14 e1b14 e3b14 e46b14 e47b14 e48b14
        refine pCall 8 (.bool t1) (args := #[.int .u8 n.kind, .int .u8 98, .int .u64 n.batch, .int .u64 18446744073709551615]) hO rfl ((wanted_if (g := 4) (m := 46) (c := true) rfl rfl (by rw [Fb15.size, hs0]; decide) e46b15).trans rfl) (by simp only [execOp]; go_simp; simp only [tmps_get, e47b15, e49b15, and_self]) NN.out.2.1.out ?_
        obtain ⟨b16, hb16⟩ : ∃ x, x = Act.put b15 (some 50) (.bool t1) := ⟨_, rfl⟩
        have Fb16 := fr_s hb16 Fb15 rfl
        have e50b16 := put_s hb16 (by rw [Fb15.size, hs0]; decide)
        have e1b16 := put_o hb16 (by decide) e1b15
        have e3b16 := put_o hb16 (by decide) e3b15
        have e46b16 := put_o hb16 (by decide) e46b15
        have e47b16 := put_o hb16 (by decide) e47b15
        have e48b16 := put_o hb16 (by decide) e48b15
        have e49b16 := put_o hb16 (by decide) e49b15
        refine (show wpFrom Tryd.prog O Q' _ (Act.put b15 (some 50) (.bool t1)) W1 from ?_)
        rw [← hb16]
        clear hb16 Fb15 e1b15 e3b15 e46b15 e47b15 e48b15 e49b15
        refine pVal 9 (.bool t1) hO rfl (wanted_none rfl) (by simp only [execOp, eval_tmpOf, eval_const, e46b16, e50b16]; first | rfl | (go_simp; done) | (go_simp; simp only [tmps_get, e46b16, e50b16]; go_simp)) ?_
        obtain ⟨b17, hb17⟩ : ∃ x, x = Act.put b16 (some 51) (.bool t1) := ⟨_, rfl⟩
        have Fb17 := fr_s hb17 Fb16 rfl
        have e51b17 := put_s hb17 (by rw [Fb16.size, hs0]; decide)
        have e1b17 := put_o hb17 (by decide) e1b16
        have e3b17 := put_o hb17 (by decide) e3b16
        have e46b17 := put_o hb17 (by decide) e46b16
        have e47b17 := put_o hb17 (by decide) e47b16
        have e48b17 := put_o hb17 (by decide) e48b16
        have e49b17 := put_o hb17 (by decide) e49b16
        have e50b17 := put_o hb17 (by decide) e50b16
        refine (show wpFrom Tryd.prog O Q' _ (Act.put b16 (some 51) (.bool t1)) W1 from ?_)
        rw [← hb17]
        clear hb17 Fb16 e1b16 e3b16 e46b16 e47b16 e48b16 e49b16 e50b16
        refine pVal 10 (.bool t1) hO rfl (wanted_none rfl) (by simp only [execOp, eval_tmpOf, e51b17]; first | rfl | (go_simp; done) | (go_simp; simp only [tmps_get, e51b17]; go_simp)) ?_
        obtain ⟨b18, hb18⟩ : ∃ x, x = Act.put b17 (some 52) (.bool t1) := ⟨_, rfl⟩
        have Fb18 := fr_s hb18 Fb17 rfl
        have e52b18 := put_s hb18 (by rw [Fb17.size, hs0]; decide)
        have e1b18 := put_o hb18 (by decide) e1b17
        have e3b18 := put_o hb18 (by decide) e3b17
        have e46b18 := put_o hb18 (by decide) e46b17
        have e47b18 := put_o hb18 (by decide) e47b17
        have e48b18 := put_o hb18 (by decide) e48b17
        have e49b18 := put_o hb18 (by decide) e49b17
        have e50b18 := put_o hb18 (by decide) e50b17
        have e51b18 := put_o hb18 (by decide) e51b17
        refine (show wpFrom Tryd.prog O Q' _ (Act.put b17 (some 52) (.bool t1)) W1 from ?_)
        rw [← hb18]
        clear hb18 Fb17 e1b17 e3b17 e46b17 e47b17 e48b17 e49b17 e50b17 e51b17
        exact H _ Fb18 e52b18
    clear Fb6 e1b6 e3b6 e46b6
    intro b19 Fb19 e52b19
    have e1b19 : tmpOf b19 1 = .pointer (some ⟨W.heap.size, 0, none⟩) := (Fb19.agree 1 (by decide)).trans e1a0
    have e3b19 : tmpOf b19 3 = .int .u8 n.kind := (Fb19.agree 3 (by decide)).trans e3a0
    obtain ⟨c1, hc1⟩ : ∃ x, x = (t0 && t1) := ⟨_, rfl⟩
    rw [← hc1] at e52b19
    have Hc1 := Lib.hid hc1
    clear hc1
    suffices H : ∀ a, Fr a0 a scrR5 → tmpOf a 58 = .bool (c1 && t2) → wpFrom Tryd.prog O Q' 17 a W1 by
      cases c1
      · skip
        refine pSkip 11 hO rfl ((wanted_if (g := 10) (m := 52) (c := false) rfl rfl (by rw [Fb19.size, hs0]; decide) e52b19).trans rfl) ?_
        obtain ⟨b20, hb20⟩ : ∃ x, x = Act.put b19 (some 53) (undef) := ⟨_, rfl⟩
        have Fb20 := fr_s hb20 Fb19 rfl
        have e53b20 := put_s hb20 (by rw [Fb19.size, hs0]; decide)
        have e1b20 := put_o hb20 (by decide) e1b19
        have e3b20 := put_o hb20 (by decide) e3b19
        have e52b20 := put_o hb20 (by decide) e52b19
        refine (show wpFrom Tryd.prog O Q' _ (Act.put b19 (some 53) (undef)) W1 from ?_)
        rw [← hb20]
        clear hb20 Fb19 e1b19 e3b19 e52b19
        refine pSkip 12 hO rfl ((wanted_if (g := 10) (m := 52) (c := false) rfl rfl (by rw [Fb20.size, hs0]; decide) e52b20).trans rfl) ?_
        obtain ⟨b21, hb21⟩ : ∃ x, x = Act.put b20 (some 54) (undef) := ⟨_, rfl⟩
        have Fb21 := fr_s hb21 Fb20 rfl
        have e54b21 := put_s hb21 (by rw [Fb20.size, hs0]; decide)
        have e1b21 := put_o hb21 (by decide) e1b20
        have e3b21 := put_o hb21 (by decide) e3b20
        have e52b21 := put_o hb21 (by decide) e52b20
        have e53b21 := put_o hb21 (by decide) e53b20
        refine (show wpFrom Tryd.prog O Q' _ (Act.put b20 (some 54) (undef)) W1 from ?_)
        rw [← hb21]
        clear hb21 Fb20 e1b20 e3b20 e52b20 e53b20
        refine pSkip 13 hO rfl ((wanted_if (g := 10) (m := 52) (c := false) rfl rfl (by rw [Fb21.size, hs0]; decide) e52b21).trans rfl) ?_
        obtain ⟨b22, hb22⟩ : ∃ x, x = Act.put b21 (some 55) (undef) := ⟨_, rfl⟩
        have Fb22 := fr_s hb22 Fb21 rfl
        have e55b22 := put_s hb22 (by rw [Fb21.size, hs0]; decide)
        have e1b22 := put_o hb22 (by decide) e1b21
        have e3b22 := put_o hb22 (by decide) e3b21
        have e52b22 := put_o hb22 (by decide) e52b21
        have e53b22 := put_o hb22 (by decide) e53b21
        have e54b22 := put_o hb22 (by decide) e54b21
        refine (show wpFrom Tryd.prog O Q' _ (Act.put b21 (some 55) (undef)) W1 from ?_)
        rw [← hb22]
        clear hb22 Fb21 e1b21 e3b21 e52b21 e53b21 e54b21
        refine pSkip 14 hO rfl ((wanted_if (g := 10) (m := 52) (c := false) rfl rfl (by rw [Fb22.size, hs0]; decide) e52b22).trans rfl) ?_
        obtain ⟨b23, hb23⟩ : ∃ x, x = Act.put b22 (some 56) (undef) := ⟨_, rfl⟩
        have Fb23 := fr_s hb23 Fb22 rfl
        have e56b23 := put_s hb23 (by rw [Fb22.size, hs0]; decide)
        have e1b23 := put_o hb23 (by decide) e1b22
        have e3b23 := put_o hb23 (by decide) e3b22
        have e52b23 := put_o hb23 (by decide) e52b22
        have e53b23 := put_o hb23 (by decide) e53b22
        have e54b23 := put_o hb23 (by decide) e54b22
        have e55b23 := put_o hb23 (by decide) e55b22
        refine (show wpFrom Tryd.prog O Q' _ (Act.put b22 (some 56) (undef)) W1 from ?_)
        rw [← hb23]
        clear hb23 Fb22 e1b22 e3b22 e52b22 e53b22 e54b22 e55b22
        refine pVal 15 (.bool false) hO rfl (wanted_none rfl) (by simp only [execOp, eval_tmpOf, eval_const, e52b23, e56b23]; first | rfl | (go_simp; done) | (go_simp; simp only [tmps_get, e52b23, e56b23]; go_simp)) ?_
        obtain ⟨b24, hb24⟩ : ∃ x, x = Act.put b23 (some 57) (.bool false) := ⟨_, rfl⟩
        have Fb24 := fr_s hb24 Fb23 rfl
        have e57b24 := put_s hb24 (by rw [Fb23.size, hs0]; decide)
        have e1b24 := put_o hb24 (by decide) e1b23
        have e3b24 := put_o hb24 (by decide) e3b23
        have e52b24 := put_o hb24 (by decide) e52b23
        have e53b24 := put_o hb24 (by decide) e53b23
        have e54b24 := put_o hb24 (by decide) e54b23
        have e55b24 := put_o hb24 (by decide) e55b23
        have e56b24 := put_o hb24 (by decide) e56b23
        refine (show wpFrom Tryd.prog O Q' _ (Act.put b23 (some 57) (.bool false)) W1 from ?_)
        rw [← hb24]
        clear hb24 Fb23 e1b23 e3b23 e52b23 e53b23 e54b23 e55b23 e56b23
        refine pVal 16 (.bool false) hO rfl (wanted_none rfl) (by simp only [execOp, eval_tmpOf, e57b24]; first | rfl | (go_simp; done) | (go_simp; simp only [tmps_get, e57b24]; go_simp)) ?_
        obtain ⟨b25, hb25⟩ : ∃ x, x = Act.put b24 (some 58) (.bool false) := ⟨_, rfl⟩
        have Fb25 := fr_s hb25 Fb24 rfl
        have e58b25 := put_s hb25 (by rw [Fb24.size, hs0]; decide)
        have e1b25 := put_o hb25 (by decide) e1b24
        have e3b25 := put_o hb25 (by decide) e3b24
        have e52b25 := put_o hb25 (by decide) e52b24
        have e53b25 := put_o hb25 (by decide) e53b24
        have e54b25 := put_o hb25 (by decide) e54b24
        have e55b25 := put_o hb25 (by decide) e55b24
        have e56b25 := put_o hb25 (by decide) e56b24
        have e57b25 := put_o hb25 (by decide) e57b24
        refine (show wpFrom Tryd.prog O Q' _ (Act.put b24 (some 58) (.bool false)) W1 from ?_)
        rw [← hb25]
        clear hb25 Fb24 e1b24 e3b24 e52b24 e53b24 e54b24 e55b24 e56b24 e57b24
        exact H _ Fb25 e58b25
      · skip
        refine pVal 11 (.int .u8 n.kind) hO rfl ((wanted_if (g := 10) (m := 52) (c := true) rfl rfl (by rw [Fb19.size, hs0]; decide) e52b19).trans rfl) (by simp only [execOp, eval_tmpOf, e3b19]; first | rfl | (go_simp; done) | (go_simp; simp only [tmps_get, e3b19]; go_simp)) ?_
        obtain ⟨b26, hb26⟩ : ∃ x, x = Act.put b19 (some 53) (.int .u8 n.kind) := ⟨_, rfl⟩
        have Fb26 := fr_s hb26 Fb19 rfl
        have e53b26 := put_s hb26 (by rw [Fb19.size, hs0]; decide)
        have e1b26 := put_o hb26 (by decide) e1b19
        have e3b26 := put_o hb26 (by decide) e3b19
        have e52b26 := put_o hb26 (by decide) e52b19
        refine (show wpFrom Tryd.prog O Q' _ (Act.put b19 (some 53) (.int .u8 n.kind)) W1 from ?_)
        rw [← hb26]
        clear hb26 Fb19 e1b19 e3b19 e52b19
        refine pVal 12 (.pointer (some ⟨W.heap.size, 3, none⟩)) hO rfl ((wanted_if (g := 10) (m := 52) (c := true) rfl rfl (by rw [Fb26.size, hs0]; decide) e52b26).trans rfl) (by simp only [execOp, eval_tmpOf, e1b26]; first | rfl | (go_simp; done) | (go_simp; simp only [tmps_get, e1b26]; go_simp)) ?_
        obtain ⟨b27, hb27⟩ : ∃ x, x = Act.put b26 (some 54) (.pointer (some ⟨W.heap.size, 3, none⟩)) := ⟨_, rfl⟩
        have Fb27 := fr_s hb27 Fb26 rfl
        have e54b27 := put_s hb27 (by rw [Fb26.size, hs0]; decide)
        have e1b27 := put_o hb27 (by decide) e1b26
        have e3b27 := put_o hb27 (by decide) e3b26
        have e52b27 := put_o hb27 (by decide) e52b26
        have e53b27 := put_o hb27 (by decide) e53b26
        refine (show wpFrom Tryd.prog O Q' _ (Act.put b26 (some 54) (.pointer (some ⟨W.heap.size, 3, none⟩))) W1 from ?_)
        rw [← hb27]
        clear hb27 Fb26 e1b26 e3b26 e52b26 e53b26
        refine pVal 13 (.int .u64 n.stamp) hO rfl ((wanted_if (g := 10) (m := 52) (c := true) rfl rfl (by rw [Fb27.size, hs0]; decide) e52b27).trans rfl) (by simp only [execOp, eval_tmpOf, e54b27]; first | rfl | (go_simp; done) | (go_simp; simp only [tmps_get, e54b27]; go_simp)) ?_
        obtain ⟨b28, hb28⟩ : ∃ x, x = Act.put b27 (some 55) (.int .u64 n.stamp) := ⟨_, rfl⟩
        have Fb28 := fr_s hb28 Fb27 rfl
        have e55b28 := put_s hb28 (by rw [Fb27.size, hs0]; decide)
        have e1b28 := put_o hb28 (by decide) e1b27
        have e3b28 := put_o hb28 (by decide) e3b27
        have e52b28 := put_o hb28 (by decide) e52b27
        have e53b28 := put_o hb28 (by decide) e53b27
        have e54b28 := put_o hb28 (by decide) e54b27
        refine (show wpFrom Tryd.prog O Q' _ (Act.put b27 (some 55) (.int .u64 n.stamp)) W1 from ?_)
        rw [← hb28]
        clear hb28 Fb27 e1b27 e3b27 e52b27 e53b27 e54b27
        refine pCall 14 (.bool t2) (args := #[.int .u8 n.kind, .int .u8 115, .int .u64 n.stamp, .int .u64 1099511627776]) hO rfl ((wanted_if (g := 10) (m := 52) (c := true) rfl rfl (by rw [Fb28.size, hs0]; decide) e52b28).trans rfl) (by simp only [execOp]; go_simp; simp only [tmps_get, e53b28, e55b28, and_self]) NN.out.2.2.1.out ?_
        obtain ⟨b29, hb29⟩ : ∃ x, x = Act.put b28 (some 56) (.bool t2) := ⟨_, rfl⟩
        have Fb29 := fr_s hb29 Fb28 rfl
        have e56b29 := put_s hb29 (by rw [Fb28.size, hs0]; decide)
        have e1b29 := put_o hb29 (by decide) e1b28
        have e3b29 := put_o hb29 (by decide) e3b28
        have e52b29 := put_o hb29 (by decide) e52b28
        have e53b29 := put_o hb29 (by decide) e53b28
        have e54b29 := put_o hb29 (by decide) e54b28
        have e55b29 := put_o hb29 (by decide) e55b28
        refine (show wpFrom Tryd.prog O Q' _ (Act.put b28 (some 56) (.bool t2)) W1 from ?_)
        rw [← hb29]
        clear hb29 Fb28 e1b28 e3b28 e52b28 e53b28 e54b28 e55b28
        refine pVal 15 (.bool t2) hO rfl (wanted_none rfl) (by simp only [execOp, eval_tmpOf, eval_const, e52b29, e56b29]; first | rfl | (go_simp; done) | (go_simp; simp only [tmps_get, e52b29, e56b29]; go_simp)) ?_
        obtain ⟨b30, hb30⟩ : ∃ x, x = Act.put b29 (some 57) (.bool t2) := ⟨_, rfl⟩
        have Fb30 := fr_s hb30 Fb29 rfl
        have e57b30 := put_s hb30 (by rw [Fb29.size, hs0]; decide)
        have e1b30 := put_o hb30 (by decide) e1b29
        have e3b30 := put_o hb30 (by decide) e3b29
        have e52b30 := put_o hb30 (by decide) e52b29
        have e53b30 := put_o hb30 (by decide) e53b29
        have e54b30 := put_o hb30 (by decide) e54b29
        have e55b30 := put_o hb30 (by decide) e55b29
        have e56b30 := put_o hb30 (by decide) e56b29
        refine (show wpFrom Tryd.prog O Q' _ (Act.put b29 (some 57) (.bool t2)) W1 from ?_)
        rw [← hb30]
        clear hb30 Fb29 e1b29 e3b29 e52b29 e53b29 e54b29 e55b29 e56b29
        refine pVal 16 (.bool t2) hO rfl (wanted_none rfl) (by simp only [execOp, eval_tmpOf, e57b30]; first | rfl | (go_simp; done) | (go_simp; simp only [tmps_get, e57b30]; go_simp)) ?_
        obtain ⟨b31, hb31⟩ : ∃ x, x = Act.put b30 (some 58) (.bool t2) := ⟨_, rfl⟩
        have Fb31 := fr_s hb31 Fb30 rfl
        have e58b31 := put_s hb31 (by rw [Fb30.size, hs0]; decide)
        have e1b31 := put_o hb31 (by decide) e1b30
        have e3b31 := put_o hb31 (by decide) e3b30
        have e52b31 := put_o hb31 (by decide) e52b30
        have e53b31 := put_o hb31 (by decide) e53b30
        have e54b31 := put_o hb31 (by decide) e54b30
        have e55b31 := put_o hb31 (by decide) e55b30
        have e56b31 := put_o hb31 (by decide) e56b30
        have e57b31 := put_o hb31 (by decide) e57b30
        refine (show wpFrom Tryd.prog O Q' _ (Act.put b30 (some 58) (.bool t2)) W1 from ?_)
        rw [← hb31]
        clear hb31 Fb30 e1b30 e3b30 e52b30 e53b30 e54b30 e55b30 e56b30 e57b30
        exact H _ Fb31 e58b31
    clear Fb19 e1b19 e3b19 e52b19
    intro b32 Fb32 e58b32
    have e1b32 : tmpOf b32 1 = .pointer (some ⟨W.heap.size, 0, none⟩) := (Fb32.agree 1 (by decide)).trans e1a0
    have e3b32 : tmpOf b32 3 = .int .u8 n.kind := (Fb32.agree 3 (by decide)).trans e3a0
    obtain ⟨c2, hc2⟩ : ∃ x, x = (c1 && t2) := ⟨_, rfl⟩
    rw [← hc2] at e58b32
    have Hc2 := Lib.hid hc2
    clear hc2
    suffices H : ∀ a, Fr a0 a scrR5 → tmpOf a 64 = .bool (c2 && t3) → wpFrom Tryd.prog O Q' 23 a W1 by
      cases c2
      · skip
        refine pSkip 17 hO rfl ((wanted_if (g := 16) (m := 58) (c := false) rfl rfl (by rw [Fb32.size, hs0]; decide) e58b32).trans rfl) ?_
        obtain ⟨b33, hb33⟩ : ∃ x, x = Act.put b32 (some 59) (undef) := ⟨_, rfl⟩
        have Fb33 := fr_s hb33 Fb32 rfl
        have e59b33 := put_s hb33 (by rw [Fb32.size, hs0]; decide)
        have e1b33 := put_o hb33 (by decide) e1b32
        have e3b33 := put_o hb33 (by decide) e3b32
        have e58b33 := put_o hb33 (by decide) e58b32
        refine (show wpFrom Tryd.prog O Q' _ (Act.put b32 (some 59) (undef)) W1 from ?_)
        rw [← hb33]
        clear hb33 Fb32 e1b32 e3b32 e58b32
        refine pSkip 18 hO rfl ((wanted_if (g := 16) (m := 58) (c := false) rfl rfl (by rw [Fb33.size, hs0]; decide) e58b33).trans rfl) ?_
        obtain ⟨b34, hb34⟩ : ∃ x, x = Act.put b33 (some 60) (undef) := ⟨_, rfl⟩
        have Fb34 := fr_s hb34 Fb33 rfl
        have e60b34 := put_s hb34 (by rw [Fb33.size, hs0]; decide)
        have e1b34 := put_o hb34 (by decide) e1b33
        have e3b34 := put_o hb34 (by decide) e3b33
        have e58b34 := put_o hb34 (by decide) e58b33
        have e59b34 := put_o hb34 (by decide) e59b33
        refine (show wpFrom Tryd.prog O Q' _ (Act.put b33 (some 60) (undef)) W1 from ?_)
        rw [← hb34]
        clear hb34 Fb33 e1b33 e3b33 e58b33 e59b33
        refine pSkip 19 hO rfl ((wanted_if (g := 16) (m := 58) (c := false) rfl rfl (by rw [Fb34.size, hs0]; decide) e58b34).trans rfl) ?_
        obtain ⟨b35, hb35⟩ : ∃ x, x = Act.put b34 (some 61) (undef) := ⟨_, rfl⟩
        have Fb35 := fr_s hb35 Fb34 rfl
        have e61b35 := put_s hb35 (by rw [Fb34.size, hs0]; decide)
        have e1b35 := put_o hb35 (by decide) e1b34
        have e3b35 := put_o hb35 (by decide) e3b34
        have e58b35 := put_o hb35 (by decide) e58b34
        have e59b35 := put_o hb35 (by decide) e59b34
        have e60b35 := put_o hb35 (by decide) e60b34
        refine (show wpFrom Tryd.prog O Q' _ (Act.put b34 (some 61) (undef)) W1 from ?_)
        rw [← hb35]
        clear hb35 Fb34 e1b34 e3b34 e58b34 e59b34 e60b34
        refine pSkip 20 hO rfl ((wanted_if (g := 16) (m := 58) (c := false) rfl rfl (by rw [Fb35.size, hs0]; decide) e58b35).trans rfl) ?_
        obtain ⟨b36, hb36⟩ : ∃ x, x = Act.put b35 (some 62) (undef) := ⟨_, rfl⟩
        have Fb36 := fr_s hb36 Fb35 rfl
        have e62b36 := put_s hb36 (by rw [Fb35.size, hs0]; decide)
        have e1b36 := put_o hb36 (by decide) e1b35
        have e3b36 := put_o hb36 (by decide) e3b35
        have e58b36 := put_o hb36 (by decide) e58b35
        have e59b36 := put_o hb36 (by decide) e59b35
        have e60b36 := put_o hb36 (by decide) e60b35
        have e61b36 := put_o hb36 (by decide) e61b35
        refine (show wpFrom Tryd.prog O Q' _ (Act.put b35 (some 62) (undef)) W1 from ?_)
        rw [← hb36]
        clear hb36 Fb35 e1b35 e3b35 e58b35 e59b35 e60b35 e61b35
        refine pVal 21 (.bool false) hO rfl (wanted_none rfl) (by simp only [execOp, eval_tmpOf, eval_const, e58b36, e62b36]; first | rfl | (go_simp; done) | (go_simp; simp only [tmps_get, e58b36, e62b36]; go_simp)) ?_
        obtain ⟨b37, hb37⟩ : ∃ x, x = Act.put b36 (some 63) (.bool false) := ⟨_, rfl⟩
        have Fb37 := fr_s hb37 Fb36 rfl
        have e63b37 := put_s hb37 (by rw [Fb36.size, hs0]; decide)
        have e1b37 := put_o hb37 (by decide) e1b36
        have e3b37 := put_o hb37 (by decide) e3b36
        have e58b37 := put_o hb37 (by decide) e58b36
        have e59b37 := put_o hb37 (by decide) e59b36
        have e60b37 := put_o hb37 (by decide) e60b36
        have e61b37 := put_o hb37 (by decide) e61b36
        have e62b37 := put_o hb37 (by decide) e62b36
        refine (show wpFrom Tryd.prog O Q' _ (Act.put b36 (some 63) (.bool false)) W1 from ?_)
        rw [← hb37]
        clear hb37 Fb36 e1b36 e3b36 e58b36 e59b36 e60b36 e61b36 e62b36
        refine pVal 22 (.bool false) hO rfl (wanted_none rfl) (by simp only [execOp, eval_tmpOf, e63b37]; first | rfl | (go_simp; done) | (go_simp; simp only [tmps_get, e63b37]; go_simp)) ?_
        obtain ⟨b38, hb38⟩ : ∃ x, x = Act.put b37 (some 64) (.bool false) := ⟨_, rfl⟩
        have Fb38 := fr_s hb38 Fb37 rfl
        have e64b38 := put_s hb38 (by rw [Fb37.size, hs0]; decide)
        have e1b38 := put_o hb38 (by decide) e1b37
        have e3b38 := put_o hb38 (by decide) e3b37
        have e58b38 := put_o hb38 (by decide) e58b37
        have e59b38 := put_o hb38 (by decide) e59b37
        have e60b38 := put_o hb38 (by decide) e60b37
        have e61b38 := put_o hb38 (by decide) e61b37
        have e62b38 := put_o hb38 (by decide) e62b37
        have e63b38 := put_o hb38 (by decide) e63b37
        refine (show wpFrom Tryd.prog O Q' _ (Act.put b37 (some 64) (.bool false)) W1 from ?_)
        rw [← hb38]
        clear hb38 Fb37 e1b37 e3b37 e58b37 e59b37 e60b37 e61b37 e62b37 e63b37
        exact H _ Fb38 e64b38
      · skip
        refine pVal 17 (.int .u8 n.kind) hO rfl ((wanted_if (g := 16) (m := 58) (c := true) rfl rfl (by rw [Fb32.size, hs0]; decide) e58b32).trans rfl) (by simp only [execOp, eval_tmpOf, e3b32]; first | rfl | (go_simp; done) | (go_simp; simp only [tmps_get, e3b32]; go_simp)) ?_
        obtain ⟨b39, hb39⟩ : ∃ x, x = Act.put b32 (some 59) (.int .u8 n.kind) := ⟨_, rfl⟩
        have Fb39 := fr_s hb39 Fb32 rfl
        have e59b39 := put_s hb39 (by rw [Fb32.size, hs0]; decide)
        have e1b39 := put_o hb39 (by decide) e1b32
        have e3b39 := put_o hb39 (by decide) e3b32
        have e58b39 := put_o hb39 (by decide) e58b32
        refine (show wpFrom Tryd.prog O Q' _ (Act.put b32 (some 59) (.int .u8 n.kind)) W1 from ?_)
        rw [← hb39]
        clear hb39 Fb32 e1b32 e3b32 e58b32
        refine pVal 18 (.pointer (some ⟨W.heap.size, 4, none⟩)) hO rfl ((wanted_if (g := 16) (m := 58) (c := true) rfl rfl (by rw [Fb39.size, hs0]; decide) e58b39).trans rfl) (by simp only [execOp, eval_tmpOf, e1b39]; first | rfl | (go_simp; done) | (go_simp; simp only [tmps_get, e1b39]; go_simp)) ?_
        obtain ⟨b40, hb40⟩ : ∃ x, x = Act.put b39 (some 60) (.pointer (some ⟨W.heap.size, 4, none⟩)) := ⟨_, rfl⟩
        have Fb40 := fr_s hb40 Fb39 rfl
        have e60b40 := put_s hb40 (by rw [Fb39.size, hs0]; decide)
        have e1b40 := put_o hb40 (by decide) e1b39
        have e3b40 := put_o hb40 (by decide) e3b39
        have e58b40 := put_o hb40 (by decide) e58b39
        have e59b40 := put_o hb40 (by decide) e59b39
        refine (show wpFrom Tryd.prog O Q' _ (Act.put b39 (some 60) (.pointer (some ⟨W.heap.size, 4, none⟩))) W1 from ?_)
        rw [← hb40]
        clear hb40 Fb39 e1b39 e3b39 e58b39 e59b39
        refine pVal 19 (.int .u64 n.after) hO rfl ((wanted_if (g := 16) (m := 58) (c := true) rfl rfl (by rw [Fb40.size, hs0]; decide) e58b40).trans rfl) (by simp only [execOp, eval_tmpOf, e60b40]; first | rfl | (go_simp; done) | (go_simp; simp only [tmps_get, e60b40]; go_simp)) ?_
        obtain ⟨b41, hb41⟩ : ∃ x, x = Act.put b40 (some 61) (.int .u64 n.after) := ⟨_, rfl⟩
        have Fb41 := fr_s hb41 Fb40 rfl
        have e61b41 := put_s hb41 (by rw [Fb40.size, hs0]; decide)
        have e1b41 := put_o hb41 (by decide) e1b40
        have e3b41 := put_o hb41 (by decide) e3b40
        have e58b41 := put_o hb41 (by decide) e58b40
        have e59b41 := put_o hb41 (by decide) e59b40
        have e60b41 := put_o hb41 (by decide) e60b40
        refine (show wpFrom Tryd.prog O Q' _ (Act.put b40 (some 61) (.int .u64 n.after)) W1 from ?_)
        rw [← hb41]
        clear hb41 Fb40 e1b40 e3b40 e58b40 e59b40 e60b40
        refine pCall 20 (.bool t3) (args := #[.int .u8 n.kind, .int .u8 97, .int .u64 n.after, .int .u64 1099511627776]) hO rfl ((wanted_if (g := 16) (m := 58) (c := true) rfl rfl (by rw [Fb41.size, hs0]; decide) e58b41).trans rfl) (by simp only [execOp]; go_simp; simp only [tmps_get, e59b41, e61b41, and_self]) NN.out.2.2.2.1.out ?_
        obtain ⟨b42, hb42⟩ : ∃ x, x = Act.put b41 (some 62) (.bool t3) := ⟨_, rfl⟩
        have Fb42 := fr_s hb42 Fb41 rfl
        have e62b42 := put_s hb42 (by rw [Fb41.size, hs0]; decide)
        have e1b42 := put_o hb42 (by decide) e1b41
        have e3b42 := put_o hb42 (by decide) e3b41
        have e58b42 := put_o hb42 (by decide) e58b41
        have e59b42 := put_o hb42 (by decide) e59b41
        have e60b42 := put_o hb42 (by decide) e60b41
        have e61b42 := put_o hb42 (by decide) e61b41
        refine (show wpFrom Tryd.prog O Q' _ (Act.put b41 (some 62) (.bool t3)) W1 from ?_)
        rw [← hb42]
        clear hb42 Fb41 e1b41 e3b41 e58b41 e59b41 e60b41 e61b41
        refine pVal 21 (.bool t3) hO rfl (wanted_none rfl) (by simp only [execOp, eval_tmpOf, eval_const, e58b42, e62b42]; first | rfl | (go_simp; done) | (go_simp; simp only [tmps_get, e58b42, e62b42]; go_simp)) ?_
        obtain ⟨b43, hb43⟩ : ∃ x, x = Act.put b42 (some 63) (.bool t3) := ⟨_, rfl⟩
        have Fb43 := fr_s hb43 Fb42 rfl
        have e63b43 := put_s hb43 (by rw [Fb42.size, hs0]; decide)
        have e1b43 := put_o hb43 (by decide) e1b42
        have e3b43 := put_o hb43 (by decide) e3b42
        have e58b43 := put_o hb43 (by decide) e58b42
        have e59b43 := put_o hb43 (by decide) e59b42
        have e60b43 := put_o hb43 (by decide) e60b42
        have e61b43 := put_o hb43 (by decide) e61b42
        have e62b43 := put_o hb43 (by decide) e62b42
        refine (show wpFrom Tryd.prog O Q' _ (Act.put b42 (some 63) (.bool t3)) W1 from ?_)
        rw [← hb43]
        clear hb43 Fb42 e1b42 e3b42 e58b42 e59b42 e60b42 e61b42 e62b42
        refine pVal 22 (.bool t3) hO rfl (wanted_none rfl) (by simp only [execOp, eval_tmpOf, e63b43]; first | rfl | (go_simp; done) | (go_simp; simp only [tmps_get, e63b43]; go_simp)) ?_
        obtain ⟨b44, hb44⟩ : ∃ x, x = Act.put b43 (some 64) (.bool t3) := ⟨_, rfl⟩
        have Fb44 := fr_s hb44 Fb43 rfl
        have e64b44 := put_s hb44 (by rw [Fb43.size, hs0]; decide)
        have e1b44 := put_o hb44 (by decide) e1b43
        have e3b44 := put_o hb44 (by decide) e3b43
        have e58b44 := put_o hb44 (by decide) e58b43
        have e59b44 := put_o hb44 (by decide) e59b43
        have e60b44 := put_o hb44 (by decide) e60b43
        have e61b44 := put_o hb44 (by decide) e61b43
        have e62b44 := put_o hb44 (by decide) e62b43
        have e63b44 := put_o hb44 (by decide) e63b43
        refine (show wpFrom Tryd.prog O Q' _ (Act.put b43 (some 64) (.bool t3)) W1 from ?_)
        rw [← hb44]
        clear hb44 Fb43 e1b43 e3b43 e58b43 e59b43 e60b43 e61b43 e62b43 e63b43
        exact H _ Fb44 e64b44
    clear Fb32 e1b32 e3b32 e58b32
    intro b45 Fb45 e64b45
    have e1b45 : tmpOf b45 1 = .pointer (some ⟨W.heap.size, 0, none⟩) := (Fb45.agree 1 (by decide)).trans e1a0
    have e3b45 : tmpOf b45 3 = .int .u8 n.kind := (Fb45.agree 3 (by decide)).trans e3a0
    obtain ⟨c3, hc3⟩ : ∃ x, x = (c2 && t3) := ⟨_, rfl⟩
    rw [← hc3] at e64b45
    have Hc3 := Lib.hid hc3
    clear hc3
    suffices H : ∀ a, Fr a0 a scrR5 → tmpOf a 70 = .bool (c3 && t4) → wpFrom Tryd.prog O Q' 29 a W1 by
      cases c3
      · skip
        refine pSkip 23 hO rfl ((wanted_if (g := 22) (m := 64) (c := false) rfl rfl (by rw [Fb45.size, hs0]; decide) e64b45).trans rfl) ?_
        obtain ⟨b46, hb46⟩ : ∃ x, x = Act.put b45 (some 65) (undef) := ⟨_, rfl⟩
        have Fb46 := fr_s hb46 Fb45 rfl
        have e65b46 := put_s hb46 (by rw [Fb45.size, hs0]; decide)
        have e1b46 := put_o hb46 (by decide) e1b45
        have e3b46 := put_o hb46 (by decide) e3b45
        have e64b46 := put_o hb46 (by decide) e64b45
        refine (show wpFrom Tryd.prog O Q' _ (Act.put b45 (some 65) (undef)) W1 from ?_)
        rw [← hb46]
        clear hb46 Fb45 e1b45 e3b45 e64b45
        refine pSkip 24 hO rfl ((wanted_if (g := 22) (m := 64) (c := false) rfl rfl (by rw [Fb46.size, hs0]; decide) e64b46).trans rfl) ?_
        obtain ⟨b47, hb47⟩ : ∃ x, x = Act.put b46 (some 66) (undef) := ⟨_, rfl⟩
        have Fb47 := fr_s hb47 Fb46 rfl
        have e66b47 := put_s hb47 (by rw [Fb46.size, hs0]; decide)
        have e1b47 := put_o hb47 (by decide) e1b46
        have e3b47 := put_o hb47 (by decide) e3b46
        have e64b47 := put_o hb47 (by decide) e64b46
        have e65b47 := put_o hb47 (by decide) e65b46
        refine (show wpFrom Tryd.prog O Q' _ (Act.put b46 (some 66) (undef)) W1 from ?_)
        rw [← hb47]
        clear hb47 Fb46 e1b46 e3b46 e64b46 e65b46
        refine pSkip 25 hO rfl ((wanted_if (g := 22) (m := 64) (c := false) rfl rfl (by rw [Fb47.size, hs0]; decide) e64b47).trans rfl) ?_
        obtain ⟨b48, hb48⟩ : ∃ x, x = Act.put b47 (some 67) (undef) := ⟨_, rfl⟩
        have Fb48 := fr_s hb48 Fb47 rfl
        have e67b48 := put_s hb48 (by rw [Fb47.size, hs0]; decide)
        have e1b48 := put_o hb48 (by decide) e1b47
        have e3b48 := put_o hb48 (by decide) e3b47
        have e64b48 := put_o hb48 (by decide) e64b47
        have e65b48 := put_o hb48 (by decide) e65b47
        have e66b48 := put_o hb48 (by decide) e66b47
        refine (show wpFrom Tryd.prog O Q' _ (Act.put b47 (some 67) (undef)) W1 from ?_)
        rw [← hb48]
        clear hb48 Fb47 e1b47 e3b47 e64b47 e65b47 e66b47
        refine pSkip 26 hO rfl ((wanted_if (g := 22) (m := 64) (c := false) rfl rfl (by rw [Fb48.size, hs0]; decide) e64b48).trans rfl) ?_
        obtain ⟨b49, hb49⟩ : ∃ x, x = Act.put b48 (some 68) (undef) := ⟨_, rfl⟩
        have Fb49 := fr_s hb49 Fb48 rfl
        have e68b49 := put_s hb49 (by rw [Fb48.size, hs0]; decide)
        have e1b49 := put_o hb49 (by decide) e1b48
        have e3b49 := put_o hb49 (by decide) e3b48
        have e64b49 := put_o hb49 (by decide) e64b48
        have e65b49 := put_o hb49 (by decide) e65b48
        have e66b49 := put_o hb49 (by decide) e66b48
        have e67b49 := put_o hb49 (by decide) e67b48
        refine (show wpFrom Tryd.prog O Q' _ (Act.put b48 (some 68) (undef)) W1 from ?_)
        rw [← hb49]
        clear hb49 Fb48 e1b48 e3b48 e64b48 e65b48 e66b48 e67b48
        refine pVal 27 (.bool false) hO rfl (wanted_none rfl) (by simp only [execOp, eval_tmpOf, eval_const, e64b49, e68b49]; first | rfl | (go_simp; done) | (go_simp; simp only [tmps_get, e64b49, e68b49]; go_simp)) ?_
        obtain ⟨b50, hb50⟩ : ∃ x, x = Act.put b49 (some 69) (.bool false) := ⟨_, rfl⟩
        have Fb50 := fr_s hb50 Fb49 rfl
        have e69b50 := put_s hb50 (by rw [Fb49.size, hs0]; decide)
        have e1b50 := put_o hb50 (by decide) e1b49
        have e3b50 := put_o hb50 (by decide) e3b49
        have e64b50 := put_o hb50 (by decide) e64b49
        have e65b50 := put_o hb50 (by decide) e65b49
        have e66b50 := put_o hb50 (by decide) e66b49
        have e67b50 := put_o hb50 (by decide) e67b49
        have e68b50 := put_o hb50 (by decide) e68b49
        refine (show wpFrom Tryd.prog O Q' _ (Act.put b49 (some 69) (.bool false)) W1 from ?_)
        rw [← hb50]
        clear hb50 Fb49 e1b49 e3b49 e64b49 e65b49 e66b49 e67b49 e68b49
        refine pVal 28 (.bool false) hO rfl (wanted_none rfl) (by simp only [execOp, eval_tmpOf, e69b50]; first | rfl | (go_simp; done) | (go_simp; simp only [tmps_get, e69b50]; go_simp)) ?_
        obtain ⟨b51, hb51⟩ : ∃ x, x = Act.put b50 (some 70) (.bool false) := ⟨_, rfl⟩
        have Fb51 := fr_s hb51 Fb50 rfl
        have e70b51 := put_s hb51 (by rw [Fb50.size, hs0]; decide)
        have e1b51 := put_o hb51 (by decide) e1b50
        have e3b51 := put_o hb51 (by decide) e3b50
        have e64b51 := put_o hb51 (by decide) e64b50
        have e65b51 := put_o hb51 (by decide) e65b50
        have e66b51 := put_o hb51 (by decide) e66b50
        have e67b51 := put_o hb51 (by decide) e67b50
        have e68b51 := put_o hb51 (by decide) e68b50
        have e69b51 := put_o hb51 (by decide) e69b50
        refine (show wpFrom Tryd.prog O Q' _ (Act.put b50 (some 70) (.bool false)) W1 from ?_)
        rw [← hb51]
        clear hb51 Fb50 e1b50 e3b50 e64b50 e65b50 e66b50 e67b50 e68b50 e69b50
        exact H _ Fb51 e70b51
      · skip
        refine pVal 23 (.int .u8 n.kind) hO rfl ((wanted_if (g := 22) (m := 64) (c := true) rfl rfl (by rw [Fb45.size, hs0]; decide) e64b45).trans rfl) (by simp only [execOp, eval_tmpOf, e3b45]; first | rfl | (go_simp; done) | (go_simp; simp only [tmps_get, e3b45]; go_simp)) ?_
        obtain ⟨b52, hb52⟩ : ∃ x, x = Act.put b45 (some 65) (.int .u8 n.kind) := ⟨_, rfl⟩
        have Fb52 := fr_s hb52 Fb45 rfl
        have e65b52 := put_s hb52 (by rw [Fb45.size, hs0]; decide)
        have e1b52 := put_o hb52 (by decide) e1b45
        have e3b52 := put_o hb52 (by decide) e3b45
        have e64b52 := put_o hb52 (by decide) e64b45
        refine (show wpFrom Tryd.prog O Q' _ (Act.put b45 (some 65) (.int .u8 n.kind)) W1 from ?_)
        rw [← hb52]
        clear hb52 Fb45 e1b45 e3b45 e64b45
        refine pVal 24 (.pointer (some ⟨W.heap.size, 5, none⟩)) hO rfl ((wanted_if (g := 22) (m := 64) (c := true) rfl rfl (by rw [Fb52.size, hs0]; decide) e64b52).trans rfl) (by simp only [execOp, eval_tmpOf, e1b52]; first | rfl | (go_simp; done) | (go_simp; simp only [tmps_get, e1b52]; go_simp)) ?_
        obtain ⟨b53, hb53⟩ : ∃ x, x = Act.put b52 (some 66) (.pointer (some ⟨W.heap.size, 5, none⟩)) := ⟨_, rfl⟩
        have Fb53 := fr_s hb53 Fb52 rfl
        have e66b53 := put_s hb53 (by rw [Fb52.size, hs0]; decide)
        have e1b53 := put_o hb53 (by decide) e1b52
        have e3b53 := put_o hb53 (by decide) e3b52
        have e64b53 := put_o hb53 (by decide) e64b52
        have e65b53 := put_o hb53 (by decide) e65b52
        refine (show wpFrom Tryd.prog O Q' _ (Act.put b52 (some 66) (.pointer (some ⟨W.heap.size, 5, none⟩))) W1 from ?_)
        rw [← hb53]
        clear hb53 Fb52 e1b52 e3b52 e64b52 e65b52
        refine pVal 25 (.int .u64 n.mark) hO rfl ((wanted_if (g := 22) (m := 64) (c := true) rfl rfl (by rw [Fb53.size, hs0]; decide) e64b53).trans rfl) (by simp only [execOp, eval_tmpOf, e66b53]; first | rfl | (go_simp; done) | (go_simp; simp only [tmps_get, e66b53]; go_simp)) ?_
        obtain ⟨b54, hb54⟩ : ∃ x, x = Act.put b53 (some 67) (.int .u64 n.mark) := ⟨_, rfl⟩
        have Fb54 := fr_s hb54 Fb53 rfl
        have e67b54 := put_s hb54 (by rw [Fb53.size, hs0]; decide)
        have e1b54 := put_o hb54 (by decide) e1b53
        have e3b54 := put_o hb54 (by decide) e3b53
        have e64b54 := put_o hb54 (by decide) e64b53
        have e65b54 := put_o hb54 (by decide) e65b53
        have e66b54 := put_o hb54 (by decide) e66b53
        refine (show wpFrom Tryd.prog O Q' _ (Act.put b53 (some 67) (.int .u64 n.mark)) W1 from ?_)
        rw [← hb54]
        clear hb54 Fb53 e1b53 e3b53 e64b53 e65b53 e66b53
        refine pCall 26 (.bool t4) (args := #[.int .u8 n.kind, .int .u8 109, .int .u64 n.mark, .int .u64 1099511627776]) hO rfl ((wanted_if (g := 22) (m := 64) (c := true) rfl rfl (by rw [Fb54.size, hs0]; decide) e64b54).trans rfl) (by simp only [execOp]; go_simp; simp only [tmps_get, e65b54, e67b54, and_self]) NN.out.2.2.2.2.1.out ?_
        obtain ⟨b55, hb55⟩ : ∃ x, x = Act.put b54 (some 68) (.bool t4) := ⟨_, rfl⟩
        have Fb55 := fr_s hb55 Fb54 rfl
        have e68b55 := put_s hb55 (by rw [Fb54.size, hs0]; decide)
        have e1b55 := put_o hb55 (by decide) e1b54
        have e3b55 := put_o hb55 (by decide) e3b54
        have e64b55 := put_o hb55 (by decide) e64b54
        have e65b55 := put_o hb55 (by decide) e65b54
        have e66b55 := put_o hb55 (by decide) e66b54
        have e67b55 := put_o hb55 (by decide) e67b54
        refine (show wpFrom Tryd.prog O Q' _ (Act.put b54 (some 68) (.bool t4)) W1 from ?_)
        rw [← hb55]
        clear hb55 Fb54 e1b54 e3b54 e64b54 e65b54 e66b54 e67b54
        refine pVal 27 (.bool t4) hO rfl (wanted_none rfl) (by simp only [execOp, eval_tmpOf, eval_const, e64b55, e68b55]; first | rfl | (go_simp; done) | (go_simp; simp only [tmps_get, e64b55, e68b55]; go_simp)) ?_
        obtain ⟨b56, hb56⟩ : ∃ x, x = Act.put b55 (some 69) (.bool t4) := ⟨_, rfl⟩
        have Fb56 := fr_s hb56 Fb55 rfl
        have e69b56 := put_s hb56 (by rw [Fb55.size, hs0]; decide)
        have e1b56 := put_o hb56 (by decide) e1b55
        have e3b56 := put_o hb56 (by decide) e3b55
        have e64b56 := put_o hb56 (by decide) e64b55
        have e65b56 := put_o hb56 (by decide) e65b55
        have e66b56 := put_o hb56 (by decide) e66b55
        have e67b56 := put_o hb56 (by decide) e67b55
        have e68b56 := put_o hb56 (by decide) e68b55
        refine (show wpFrom Tryd.prog O Q' _ (Act.put b55 (some 69) (.bool t4)) W1 from ?_)
        rw [← hb56]
        clear hb56 Fb55 e1b55 e3b55 e64b55 e65b55 e66b55 e67b55 e68b55
        refine pVal 28 (.bool t4) hO rfl (wanted_none rfl) (by simp only [execOp, eval_tmpOf, e69b56]; first | rfl | (go_simp; done) | (go_simp; simp only [tmps_get, e69b56]; go_simp)) ?_
        obtain ⟨b57, hb57⟩ : ∃ x, x = Act.put b56 (some 70) (.bool t4) := ⟨_, rfl⟩
        have Fb57 := fr_s hb57 Fb56 rfl
        have e70b57 := put_s hb57 (by rw [Fb56.size, hs0]; decide)
        have e1b57 := put_o hb57 (by decide) e1b56
        have e3b57 := put_o hb57 (by decide) e3b56
        have e64b57 := put_o hb57 (by decide) e64b56
        have e65b57 := put_o hb57 (by decide) e65b56
        have e66b57 := put_o hb57 (by decide) e66b56
        have e67b57 := put_o hb57 (by decide) e67b56
        have e68b57 := put_o hb57 (by decide) e68b56
        have e69b57 := put_o hb57 (by decide) e69b56
        refine (show wpFrom Tryd.prog O Q' _ (Act.put b56 (some 70) (.bool t4)) W1 from ?_)
        rw [← hb57]
        clear hb57 Fb56 e1b56 e3b56 e64b56 e65b56 e66b56 e67b56 e68b56 e69b56
        exact H _ Fb57 e70b57
    clear Fb45 e1b45 e3b45 e64b45
    intro b58 Fb58 e70b58
    have e1b58 : tmpOf b58 1 = .pointer (some ⟨W.heap.size, 0, none⟩) := (Fb58.agree 1 (by decide)).trans e1a0
    have e3b58 : tmpOf b58 3 = .int .u8 n.kind := (Fb58.agree 3 (by decide)).trans e3a0
    obtain ⟨c4, hc4⟩ : ∃ x, x = (c3 && t4) := ⟨_, rfl⟩
    rw [← hc4] at e70b58
    have Hc4 := Lib.hid hc4
    clear hc4
    suffices H : ∀ a, Fr a0 a scrR5 → tmpOf a 76 = .bool (c4 && t5) → wpFrom Tryd.prog O Q' 35 a W1 by
      cases c4
      · skip
        refine pSkip 29 hO rfl ((wanted_if (g := 28) (m := 70) (c := false) rfl rfl (by rw [Fb58.size, hs0]; decide) e70b58).trans rfl) ?_
        obtain ⟨b59, hb59⟩ : ∃ x, x = Act.put b58 (some 71) (undef) := ⟨_, rfl⟩
        have Fb59 := fr_s hb59 Fb58 rfl
        have e71b59 := put_s hb59 (by rw [Fb58.size, hs0]; decide)
        have e1b59 := put_o hb59 (by decide) e1b58
        have e3b59 := put_o hb59 (by decide) e3b58
        have e70b59 := put_o hb59 (by decide) e70b58
        refine (show wpFrom Tryd.prog O Q' _ (Act.put b58 (some 71) (undef)) W1 from ?_)
        rw [← hb59]
        clear hb59 Fb58 e1b58 e3b58 e70b58
        refine pSkip 30 hO rfl ((wanted_if (g := 28) (m := 70) (c := false) rfl rfl (by rw [Fb59.size, hs0]; decide) e70b59).trans rfl) ?_
        obtain ⟨b60, hb60⟩ : ∃ x, x = Act.put b59 (some 72) (undef) := ⟨_, rfl⟩
        have Fb60 := fr_s hb60 Fb59 rfl
        have e72b60 := put_s hb60 (by rw [Fb59.size, hs0]; decide)
        have e1b60 := put_o hb60 (by decide) e1b59
        have e3b60 := put_o hb60 (by decide) e3b59
        have e70b60 := put_o hb60 (by decide) e70b59
        have e71b60 := put_o hb60 (by decide) e71b59
        refine (show wpFrom Tryd.prog O Q' _ (Act.put b59 (some 72) (undef)) W1 from ?_)
        rw [← hb60]
        clear hb60 Fb59 e1b59 e3b59 e70b59 e71b59
        refine pSkip 31 hO rfl ((wanted_if (g := 28) (m := 70) (c := false) rfl rfl (by rw [Fb60.size, hs0]; decide) e70b60).trans rfl) ?_
        obtain ⟨b61, hb61⟩ : ∃ x, x = Act.put b60 (some 73) (undef) := ⟨_, rfl⟩
        have Fb61 := fr_s hb61 Fb60 rfl
        have e73b61 := put_s hb61 (by rw [Fb60.size, hs0]; decide)
        have e1b61 := put_o hb61 (by decide) e1b60
        have e3b61 := put_o hb61 (by decide) e3b60
        have e70b61 := put_o hb61 (by decide) e70b60
        have e71b61 := put_o hb61 (by decide) e71b60
        have e72b61 := put_o hb61 (by decide) e72b60
        refine (show wpFrom Tryd.prog O Q' _ (Act.put b60 (some 73) (undef)) W1 from ?_)
        rw [← hb61]
        clear hb61 Fb60 e1b60 e3b60 e70b60 e71b60 e72b60
        refine pSkip 32 hO rfl ((wanted_if (g := 28) (m := 70) (c := false) rfl rfl (by rw [Fb61.size, hs0]; decide) e70b61).trans rfl) ?_
        obtain ⟨b62, hb62⟩ : ∃ x, x = Act.put b61 (some 74) (undef) := ⟨_, rfl⟩
        have Fb62 := fr_s hb62 Fb61 rfl
        have e74b62 := put_s hb62 (by rw [Fb61.size, hs0]; decide)
        have e1b62 := put_o hb62 (by decide) e1b61
        have e3b62 := put_o hb62 (by decide) e3b61
        have e70b62 := put_o hb62 (by decide) e70b61
        have e71b62 := put_o hb62 (by decide) e71b61
        have e72b62 := put_o hb62 (by decide) e72b61
        have e73b62 := put_o hb62 (by decide) e73b61
        refine (show wpFrom Tryd.prog O Q' _ (Act.put b61 (some 74) (undef)) W1 from ?_)
        rw [← hb62]
        clear hb62 Fb61 e1b61 e3b61 e70b61 e71b61 e72b61 e73b61
        refine pVal 33 (.bool false) hO rfl (wanted_none rfl) (by simp only [execOp, eval_tmpOf, eval_const, e70b62, e74b62]; first | rfl | (go_simp; done) | (go_simp; simp only [tmps_get, e70b62, e74b62]; go_simp)) ?_
        obtain ⟨b63, hb63⟩ : ∃ x, x = Act.put b62 (some 75) (.bool false) := ⟨_, rfl⟩
        have Fb63 := fr_s hb63 Fb62 rfl
        have e75b63 := put_s hb63 (by rw [Fb62.size, hs0]; decide)
        have e1b63 := put_o hb63 (by decide) e1b62
        have e3b63 := put_o hb63 (by decide) e3b62
        have e70b63 := put_o hb63 (by decide) e70b62
        have e71b63 := put_o hb63 (by decide) e71b62
        have e72b63 := put_o hb63 (by decide) e72b62
        have e73b63 := put_o hb63 (by decide) e73b62
        have e74b63 := put_o hb63 (by decide) e74b62
        refine (show wpFrom Tryd.prog O Q' _ (Act.put b62 (some 75) (.bool false)) W1 from ?_)
        rw [← hb63]
        clear hb63 Fb62 e1b62 e3b62 e70b62 e71b62 e72b62 e73b62 e74b62
        refine pVal 34 (.bool false) hO rfl (wanted_none rfl) (by simp only [execOp, eval_tmpOf, e75b63]; first | rfl | (go_simp; done) | (go_simp; simp only [tmps_get, e75b63]; go_simp)) ?_
        obtain ⟨b64, hb64⟩ : ∃ x, x = Act.put b63 (some 76) (.bool false) := ⟨_, rfl⟩
        have Fb64 := fr_s hb64 Fb63 rfl
        have e76b64 := put_s hb64 (by rw [Fb63.size, hs0]; decide)
        have e1b64 := put_o hb64 (by decide) e1b63
        have e3b64 := put_o hb64 (by decide) e3b63
        have e70b64 := put_o hb64 (by decide) e70b63
        have e71b64 := put_o hb64 (by decide) e71b63
        have e72b64 := put_o hb64 (by decide) e72b63
        have e73b64 := put_o hb64 (by decide) e73b63
        have e74b64 := put_o hb64 (by decide) e74b63
        have e75b64 := put_o hb64 (by decide) e75b63
        refine (show wpFrom Tryd.prog O Q' _ (Act.put b63 (some 76) (.bool false)) W1 from ?_)
        rw [← hb64]
        clear hb64 Fb63 e1b63 e3b63 e70b63 e71b63 e72b63 e73b63 e74b63 e75b63
        exact H _ Fb64 e76b64
      · skip
        refine pVal 29 (.int .u8 n.kind) hO rfl ((wanted_if (g := 28) (m := 70) (c := true) rfl rfl (by rw [Fb58.size, hs0]; decide) e70b58).trans rfl) (by simp only [execOp, eval_tmpOf, e3b58]; first | rfl | (go_simp; done) | (go_simp; simp only [tmps_get, e3b58]; go_simp)) ?_
        obtain ⟨b65, hb65⟩ : ∃ x, x = Act.put b58 (some 71) (.int .u8 n.kind) := ⟨_, rfl⟩
        have Fb65 := fr_s hb65 Fb58 rfl
        have e71b65 := put_s hb65 (by rw [Fb58.size, hs0]; decide)
        have e1b65 := put_o hb65 (by decide) e1b58
        have e3b65 := put_o hb65 (by decide) e3b58
        have e70b65 := put_o hb65 (by decide) e70b58
        refine (show wpFrom Tryd.prog O Q' _ (Act.put b58 (some 71) (.int .u8 n.kind)) W1 from ?_)
        rw [← hb65]
        clear hb65 Fb58 e1b58 e3b58 e70b58
        refine pVal 30 (.pointer (some ⟨W.heap.size, 6, none⟩)) hO rfl ((wanted_if (g := 28) (m := 70) (c := true) rfl rfl (by rw [Fb65.size, hs0]; decide) e70b65).trans rfl) (by simp only [execOp, eval_tmpOf, e1b65]; first | rfl | (go_simp; done) | (go_simp; simp only [tmps_get, e1b65]; go_simp)) ?_
        obtain ⟨b66, hb66⟩ : ∃ x, x = Act.put b65 (some 72) (.pointer (some ⟨W.heap.size, 6, none⟩)) := ⟨_, rfl⟩
        have Fb66 := fr_s hb66 Fb65 rfl
        have e72b66 := put_s hb66 (by rw [Fb65.size, hs0]; decide)
        have e1b66 := put_o hb66 (by decide) e1b65
        have e3b66 := put_o hb66 (by decide) e3b65
        have e70b66 := put_o hb66 (by decide) e70b65
        have e71b66 := put_o hb66 (by decide) e71b65
        refine (show wpFrom Tryd.prog O Q' _ (Act.put b65 (some 72) (.pointer (some ⟨W.heap.size, 6, none⟩))) W1 from ?_)
        rw [← hb66]
        clear hb66 Fb65 e1b65 e3b65 e70b65 e71b65
        refine pVal 31 (.int .u64 n.query) hO rfl ((wanted_if (g := 28) (m := 70) (c := true) rfl rfl (by rw [Fb66.size, hs0]; decide) e70b66).trans rfl) (by simp only [execOp, eval_tmpOf, e72b66]; first | rfl | (go_simp; done) | (go_simp; simp only [tmps_get, e72b66]; go_simp)) ?_
        obtain ⟨b67, hb67⟩ : ∃ x, x = Act.put b66 (some 73) (.int .u64 n.query) := ⟨_, rfl⟩
        have Fb67 := fr_s hb67 Fb66 rfl
        have e73b67 := put_s hb67 (by rw [Fb66.size, hs0]; decide)
        have e1b67 := put_o hb67 (by decide) e1b66
        have e3b67 := put_o hb67 (by decide) e3b66
        have e70b67 := put_o hb67 (by decide) e70b66
        have e71b67 := put_o hb67 (by decide) e71b66
        have e72b67 := put_o hb67 (by decide) e72b66
        refine (show wpFrom Tryd.prog O Q' _ (Act.put b66 (some 73) (.int .u64 n.query)) W1 from ?_)
        rw [← hb67]
        clear hb67 Fb66 e1b66 e3b66 e70b66 e71b66 e72b66
        refine pCall 32 (.bool t5) (args := #[.int .u8 n.kind, .int .u8 113, .int .u64 n.query, .int .u64 18446744073709551615]) hO rfl ((wanted_if (g := 28) (m := 70) (c := true) rfl rfl (by rw [Fb67.size, hs0]; decide) e70b67).trans rfl) (by simp only [execOp]; go_simp; simp only [tmps_get, e71b67, e73b67, and_self]) NN.out.2.2.2.2.2.1.out ?_
        obtain ⟨b68, hb68⟩ : ∃ x, x = Act.put b67 (some 74) (.bool t5) := ⟨_, rfl⟩
        have Fb68 := fr_s hb68 Fb67 rfl
        have e74b68 := put_s hb68 (by rw [Fb67.size, hs0]; decide)
        have e1b68 := put_o hb68 (by decide) e1b67
        have e3b68 := put_o hb68 (by decide) e3b67
        have e70b68 := put_o hb68 (by decide) e70b67
        have e71b68 := put_o hb68 (by decide) e71b67
        have e72b68 := put_o hb68 (by decide) e72b67
        have e73b68 := put_o hb68 (by decide) e73b67
        refine (show wpFrom Tryd.prog O Q' _ (Act.put b67 (some 74) (.bool t5)) W1 from ?_)
        rw [← hb68]
        clear hb68 Fb67 e1b67 e3b67 e70b67 e71b67 e72b67 e73b67
        refine pVal 33 (.bool t5) hO rfl (wanted_none rfl) (by simp only [execOp, eval_tmpOf, eval_const, e70b68, e74b68]; first | rfl | (go_simp; done) | (go_simp; simp only [tmps_get, e70b68, e74b68]; go_simp)) ?_
        obtain ⟨b69, hb69⟩ : ∃ x, x = Act.put b68 (some 75) (.bool t5) := ⟨_, rfl⟩
        have Fb69 := fr_s hb69 Fb68 rfl
        have e75b69 := put_s hb69 (by rw [Fb68.size, hs0]; decide)
        have e1b69 := put_o hb69 (by decide) e1b68
        have e3b69 := put_o hb69 (by decide) e3b68
        have e70b69 := put_o hb69 (by decide) e70b68
        have e71b69 := put_o hb69 (by decide) e71b68
        have e72b69 := put_o hb69 (by decide) e72b68
        have e73b69 := put_o hb69 (by decide) e73b68
        have e74b69 := put_o hb69 (by decide) e74b68
        refine (show wpFrom Tryd.prog O Q' _ (Act.put b68 (some 75) (.bool t5)) W1 from ?_)
        rw [← hb69]
        clear hb69 Fb68 e1b68 e3b68 e70b68 e71b68 e72b68 e73b68 e74b68
        refine pVal 34 (.bool t5) hO rfl (wanted_none rfl) (by simp only [execOp, eval_tmpOf, e75b69]; first | rfl | (go_simp; done) | (go_simp; simp only [tmps_get, e75b69]; go_simp)) ?_
        obtain ⟨b70, hb70⟩ : ∃ x, x = Act.put b69 (some 76) (.bool t5) := ⟨_, rfl⟩
        have Fb70 := fr_s hb70 Fb69 rfl
        have e76b70 := put_s hb70 (by rw [Fb69.size, hs0]; decide)
        have e1b70 := put_o hb70 (by decide) e1b69
        have e3b70 := put_o hb70 (by decide) e3b69
        have e70b70 := put_o hb70 (by decide) e70b69
        have e71b70 := put_o hb70 (by decide) e71b69
        have e72b70 := put_o hb70 (by decide) e72b69
        have e73b70 := put_o hb70 (by decide) e73b69
        have e74b70 := put_o hb70 (by decide) e74b69
        have e75b70 := put_o hb70 (by decide) e75b69
        refine (show wpFrom Tryd.prog O Q' _ (Act.put b69 (some 76) (.bool t5)) W1 from ?_)
        rw [← hb70]
        clear hb70 Fb69 e1b69 e3b69 e70b69 e71b69 e72b69 e73b69 e74b69 e75b69
        exact H _ Fb70 e76b70
    clear Fb58 e1b58 e3b58 e70b58
    intro b71 Fb71 e76b71
    have e1b71 : tmpOf b71 1 = .pointer (some ⟨W.heap.size, 0, none⟩) := (Fb71.agree 1 (by decide)).trans e1a0
    have e3b71 : tmpOf b71 3 = .int .u8 n.kind := (Fb71.agree 3 (by decide)).trans e3a0
    obtain ⟨c5, hc5⟩ : ∃ x, x = (c4 && t5) := ⟨_, rfl⟩
    rw [← hc5] at e76b71
    have Hc5 := Lib.hid hc5
    clear hc5
    suffices H : ∀ a, Fr a0 a scrR5 → tmpOf a 82 = .bool (c5 && t6) → wpFrom Tryd.prog O Q' 41 a W1 by
      cases c5
      · skip
        refine pSkip 35 hO rfl ((wanted_if (g := 34) (m := 76) (c := false) rfl rfl (by rw [Fb71.size, hs0]; decide) e76b71).trans rfl) ?_
        obtain ⟨b72, hb72⟩ : ∃ x, x = Act.put b71 (some 77) (undef) := ⟨_, rfl⟩
        have Fb72 := fr_s hb72 Fb71 rfl
        have e77b72 := put_s hb72 (by rw [Fb71.size, hs0]; decide)
        have e1b72 := put_o hb72 (by decide) e1b71
        have e3b72 := put_o hb72 (by decide) e3b71
        have e76b72 := put_o hb72 (by decide) e76b71
        refine (show wpFrom Tryd.prog O Q' _ (Act.put b71 (some 77) (undef)) W1 from ?_)
        rw [← hb72]
        clear hb72 Fb71 e1b71 e3b71 e76b71
        refine pSkip 36 hO rfl ((wanted_if (g := 34) (m := 76) (c := false) rfl rfl (by rw [Fb72.size, hs0]; decide) e76b72).trans rfl) ?_
        obtain ⟨b73, hb73⟩ : ∃ x, x = Act.put b72 (some 78) (undef) := ⟨_, rfl⟩
        have Fb73 := fr_s hb73 Fb72 rfl
        have e78b73 := put_s hb73 (by rw [Fb72.size, hs0]; decide)
        have e1b73 := put_o hb73 (by decide) e1b72
        have e3b73 := put_o hb73 (by decide) e3b72
        have e76b73 := put_o hb73 (by decide) e76b72
        have e77b73 := put_o hb73 (by decide) e77b72
        refine (show wpFrom Tryd.prog O Q' _ (Act.put b72 (some 78) (undef)) W1 from ?_)
        rw [← hb73]
        clear hb73 Fb72 e1b72 e3b72 e76b72 e77b72
        refine pSkip 37 hO rfl ((wanted_if (g := 34) (m := 76) (c := false) rfl rfl (by rw [Fb73.size, hs0]; decide) e76b73).trans rfl) ?_
        obtain ⟨b74, hb74⟩ : ∃ x, x = Act.put b73 (some 79) (undef) := ⟨_, rfl⟩
        have Fb74 := fr_s hb74 Fb73 rfl
        have e79b74 := put_s hb74 (by rw [Fb73.size, hs0]; decide)
        have e1b74 := put_o hb74 (by decide) e1b73
        have e3b74 := put_o hb74 (by decide) e3b73
        have e76b74 := put_o hb74 (by decide) e76b73
        have e77b74 := put_o hb74 (by decide) e77b73
        have e78b74 := put_o hb74 (by decide) e78b73
        refine (show wpFrom Tryd.prog O Q' _ (Act.put b73 (some 79) (undef)) W1 from ?_)
        rw [← hb74]
        clear hb74 Fb73 e1b73 e3b73 e76b73 e77b73 e78b73
        refine pSkip 38 hO rfl ((wanted_if (g := 34) (m := 76) (c := false) rfl rfl (by rw [Fb74.size, hs0]; decide) e76b74).trans rfl) ?_
        obtain ⟨b75, hb75⟩ : ∃ x, x = Act.put b74 (some 80) (undef) := ⟨_, rfl⟩
        have Fb75 := fr_s hb75 Fb74 rfl
        have e80b75 := put_s hb75 (by rw [Fb74.size, hs0]; decide)
        have e1b75 := put_o hb75 (by decide) e1b74
        have e3b75 := put_o hb75 (by decide) e3b74
        have e76b75 := put_o hb75 (by decide) e76b74
        have e77b75 := put_o hb75 (by decide) e77b74
        have e78b75 := put_o hb75 (by decide) e78b74
        have e79b75 := put_o hb75 (by decide) e79b74
        refine (show wpFrom Tryd.prog O Q' _ (Act.put b74 (some 80) (undef)) W1 from ?_)
        rw [← hb75]
        clear hb75 Fb74 e1b74 e3b74 e76b74 e77b74 e78b74 e79b74
        refine pVal 39 (.bool false) hO rfl (wanted_none rfl) (by simp only [execOp, eval_tmpOf, eval_const, e76b75, e80b75]; first | rfl | (go_simp; done) | (go_simp; simp only [tmps_get, e76b75, e80b75]; go_simp)) ?_
        obtain ⟨b76, hb76⟩ : ∃ x, x = Act.put b75 (some 81) (.bool false) := ⟨_, rfl⟩
        have Fb76 := fr_s hb76 Fb75 rfl
        have e81b76 := put_s hb76 (by rw [Fb75.size, hs0]; decide)
        have e1b76 := put_o hb76 (by decide) e1b75
        have e3b76 := put_o hb76 (by decide) e3b75
        have e76b76 := put_o hb76 (by decide) e76b75
        have e77b76 := put_o hb76 (by decide) e77b75
        have e78b76 := put_o hb76 (by decide) e78b75
        have e79b76 := put_o hb76 (by decide) e79b75
        have e80b76 := put_o hb76 (by decide) e80b75
        refine (show wpFrom Tryd.prog O Q' _ (Act.put b75 (some 81) (.bool false)) W1 from ?_)
        rw [← hb76]
        clear hb76 Fb75 e1b75 e3b75 e76b75 e77b75 e78b75 e79b75 e80b75
        refine pVal 40 (.bool false) hO rfl (wanted_none rfl) (by simp only [execOp, eval_tmpOf, e81b76]; first | rfl | (go_simp; done) | (go_simp; simp only [tmps_get, e81b76]; go_simp)) ?_
        obtain ⟨b77, hb77⟩ : ∃ x, x = Act.put b76 (some 82) (.bool false) := ⟨_, rfl⟩
        have Fb77 := fr_s hb77 Fb76 rfl
        have e82b77 := put_s hb77 (by rw [Fb76.size, hs0]; decide)
        have e1b77 := put_o hb77 (by decide) e1b76
        have e3b77 := put_o hb77 (by decide) e3b76
        have e76b77 := put_o hb77 (by decide) e76b76
        have e77b77 := put_o hb77 (by decide) e77b76
        have e78b77 := put_o hb77 (by decide) e78b76
        have e79b77 := put_o hb77 (by decide) e79b76
        have e80b77 := put_o hb77 (by decide) e80b76
        have e81b77 := put_o hb77 (by decide) e81b76
        refine (show wpFrom Tryd.prog O Q' _ (Act.put b76 (some 82) (.bool false)) W1 from ?_)
        rw [← hb77]
        clear hb77 Fb76 e1b76 e3b76 e76b76 e77b76 e78b76 e79b76 e80b76 e81b76
        exact H _ Fb77 e82b77
      · skip
        refine pVal 35 (.int .u8 n.kind) hO rfl ((wanted_if (g := 34) (m := 76) (c := true) rfl rfl (by rw [Fb71.size, hs0]; decide) e76b71).trans rfl) (by simp only [execOp, eval_tmpOf, e3b71]; first | rfl | (go_simp; done) | (go_simp; simp only [tmps_get, e3b71]; go_simp)) ?_
        obtain ⟨b78, hb78⟩ : ∃ x, x = Act.put b71 (some 77) (.int .u8 n.kind) := ⟨_, rfl⟩
        have Fb78 := fr_s hb78 Fb71 rfl
        have e77b78 := put_s hb78 (by rw [Fb71.size, hs0]; decide)
        have e1b78 := put_o hb78 (by decide) e1b71
        have e3b78 := put_o hb78 (by decide) e3b71
        have e76b78 := put_o hb78 (by decide) e76b71
        refine (show wpFrom Tryd.prog O Q' _ (Act.put b71 (some 77) (.int .u8 n.kind)) W1 from ?_)
        rw [← hb78]
        clear hb78 Fb71 e1b71 e3b71 e76b71
        refine pVal 36 (.pointer (some ⟨W.heap.size, 7, none⟩)) hO rfl ((wanted_if (g := 34) (m := 76) (c := true) rfl rfl (by rw [Fb78.size, hs0]; decide) e76b78).trans rfl) (by simp only [execOp, eval_tmpOf, e1b78]; first | rfl | (go_simp; done) | (go_simp; simp only [tmps_get, e1b78]; go_simp)) ?_
        obtain ⟨b79, hb79⟩ : ∃ x, x = Act.put b78 (some 78) (.pointer (some ⟨W.heap.size, 7, none⟩)) := ⟨_, rfl⟩
        have Fb79 := fr_s hb79 Fb78 rfl
        have e78b79 := put_s hb79 (by rw [Fb78.size, hs0]; decide)
        have e1b79 := put_o hb79 (by decide) e1b78
        have e3b79 := put_o hb79 (by decide) e3b78
        have e76b79 := put_o hb79 (by decide) e76b78
        have e77b79 := put_o hb79 (by decide) e77b78
        refine (show wpFrom Tryd.prog O Q' _ (Act.put b78 (some 78) (.pointer (some ⟨W.heap.size, 7, none⟩))) W1 from ?_)
        rw [← hb79]
        clear hb79 Fb78 e1b78 e3b78 e76b78 e77b78
        refine pVal 37 (.int .u64 n.id) hO rfl ((wanted_if (g := 34) (m := 76) (c := true) rfl rfl (by rw [Fb79.size, hs0]; decide) e76b79).trans rfl) (by simp only [execOp, eval_tmpOf, e78b79]; first | rfl | (go_simp; done) | (go_simp; simp only [tmps_get, e78b79]; go_simp)) ?_
        obtain ⟨b80, hb80⟩ : ∃ x, x = Act.put b79 (some 79) (.int .u64 n.id) := ⟨_, rfl⟩
        have Fb80 := fr_s hb80 Fb79 rfl
        have e79b80 := put_s hb80 (by rw [Fb79.size, hs0]; decide)
        have e1b80 := put_o hb80 (by decide) e1b79
        have e3b80 := put_o hb80 (by decide) e3b79
        have e76b80 := put_o hb80 (by decide) e76b79
        have e77b80 := put_o hb80 (by decide) e77b79
        have e78b80 := put_o hb80 (by decide) e78b79
        refine (show wpFrom Tryd.prog O Q' _ (Act.put b79 (some 79) (.int .u64 n.id)) W1 from ?_)
        rw [← hb80]
        clear hb80 Fb79 e1b79 e3b79 e76b79 e77b79 e78b79
        refine pCall 38 (.bool t6) (args := #[.int .u8 n.kind, .int .u8 105, .int .u64 n.id, .int .u64 1099511627776]) hO rfl ((wanted_if (g := 34) (m := 76) (c := true) rfl rfl (by rw [Fb80.size, hs0]; decide) e76b80).trans rfl) (by simp only [execOp]; go_simp; simp only [tmps_get, e77b80, e79b80, and_self]) NN.out.2.2.2.2.2.2.1.out ?_
        obtain ⟨b81, hb81⟩ : ∃ x, x = Act.put b80 (some 80) (.bool t6) := ⟨_, rfl⟩
        have Fb81 := fr_s hb81 Fb80 rfl
        have e80b81 := put_s hb81 (by rw [Fb80.size, hs0]; decide)
        have e1b81 := put_o hb81 (by decide) e1b80
        have e3b81 := put_o hb81 (by decide) e3b80
        have e76b81 := put_o hb81 (by decide) e76b80
        have e77b81 := put_o hb81 (by decide) e77b80
        have e78b81 := put_o hb81 (by decide) e78b80
        have e79b81 := put_o hb81 (by decide) e79b80
        refine (show wpFrom Tryd.prog O Q' _ (Act.put b80 (some 80) (.bool t6)) W1 from ?_)
        rw [← hb81]
        clear hb81 Fb80 e1b80 e3b80 e76b80 e77b80 e78b80 e79b80
        refine pVal 39 (.bool t6) hO rfl (wanted_none rfl) (by simp only [execOp, eval_tmpOf, eval_const, e76b81, e80b81]; first | rfl | (go_simp; done) | (go_simp; simp only [tmps_get, e76b81, e80b81]; go_simp)) ?_
        obtain ⟨b82, hb82⟩ : ∃ x, x = Act.put b81 (some 81) (.bool t6) := ⟨_, rfl⟩
        have Fb82 := fr_s hb82 Fb81 rfl
        have e81b82 := put_s hb82 (by rw [Fb81.size, hs0]; decide)
        have e1b82 := put_o hb82 (by decide) e1b81
        have e3b82 := put_o hb82 (by decide) e3b81
        have e76b82 := put_o hb82 (by decide) e76b81
        have e77b82 := put_o hb82 (by decide) e77b81
        have e78b82 := put_o hb82 (by decide) e78b81
        have e79b82 := put_o hb82 (by decide) e79b81
        have e80b82 := put_o hb82 (by decide) e80b81
        refine (show wpFrom Tryd.prog O Q' _ (Act.put b81 (some 81) (.bool t6)) W1 from ?_)
        rw [← hb82]
        clear hb82 Fb81 e1b81 e3b81 e76b81 e77b81 e78b81 e79b81 e80b81
        refine pVal 40 (.bool t6) hO rfl (wanted_none rfl) (by simp only [execOp, eval_tmpOf, e81b82]; first | rfl | (go_simp; done) | (go_simp; simp only [tmps_get, e81b82]; go_simp)) ?_
        obtain ⟨b83, hb83⟩ : ∃ x, x = Act.put b82 (some 82) (.bool t6) := ⟨_, rfl⟩
        have Fb83 := fr_s hb83 Fb82 rfl
        have e82b83 := put_s hb83 (by rw [Fb82.size, hs0]; decide)
        have e1b83 := put_o hb83 (by decide) e1b82
        have e3b83 := put_o hb83 (by decide) e3b82
        have e76b83 := put_o hb83 (by decide) e76b82
        have e77b83 := put_o hb83 (by decide) e77b82
        have e78b83 := put_o hb83 (by decide) e78b82
        have e79b83 := put_o hb83 (by decide) e79b82
        have e80b83 := put_o hb83 (by decide) e80b82
        have e81b83 := put_o hb83 (by decide) e81b82
        refine (show wpFrom Tryd.prog O Q' _ (Act.put b82 (some 82) (.bool t6)) W1 from ?_)
        rw [← hb83]
        clear hb83 Fb82 e1b82 e3b82 e76b82 e77b82 e78b82 e79b82 e80b82 e81b82
        exact H _ Fb83 e82b83
    clear Fb71 e1b71 e3b71 e76b71
    intro b84 Fb84 e82b84
    have e1b84 : tmpOf b84 1 = .pointer (some ⟨W.heap.size, 0, none⟩) := (Fb84.agree 1 (by decide)).trans e1a0
    have e3b84 : tmpOf b84 3 = .int .u8 n.kind := (Fb84.agree 3 (by decide)).trans e3a0
    obtain ⟨c6, hc6⟩ : ∃ x, x = (c5 && t6) := ⟨_, rfl⟩
    rw [← hc6] at e82b84
    have Hc6 := Lib.hid hc6
    clear hc6
    suffices H : ∀ a, Fr a0 a scrR5 → tmpOf a 89 = .bool (c6 && t7) → wpFrom Tryd.prog O Q' 48 a W1 by
      cases c6
      · skip
        refine pSkip 41 hO rfl ((wanted_if (g := 40) (m := 82) (c := false) rfl rfl (by rw [Fb84.size, hs0]; decide) e82b84).trans rfl) ?_
        obtain ⟨b85, hb85⟩ : ∃ x, x = Act.put b84 (some 83) (undef) := ⟨_, rfl⟩
        have Fb85 := fr_s hb85 Fb84 rfl
        have e83b85 := put_s hb85 (by rw [Fb84.size, hs0]; decide)
        have e1b85 := put_o hb85 (by decide) e1b84
        have e3b85 := put_o hb85 (by decide) e3b84
        have e82b85 := put_o hb85 (by decide) e82b84
        refine (show wpFrom Tryd.prog O Q' _ (Act.put b84 (some 83) (undef)) W1 from ?_)
        rw [← hb85]
        clear hb85 Fb84 e1b84 e3b84 e82b84
        refine pSkip 42 hO rfl ((wanted_if (g := 40) (m := 82) (c := false) rfl rfl (by rw [Fb85.size, hs0]; decide) e82b85).trans rfl) ?_
        obtain ⟨b86, hb86⟩ : ∃ x, x = Act.put b85 (some 84) (undef) := ⟨_, rfl⟩
        have Fb86 := fr_s hb86 Fb85 rfl
        have e84b86 := put_s hb86 (by rw [Fb85.size, hs0]; decide)
        have e1b86 := put_o hb86 (by decide) e1b85
        have e3b86 := put_o hb86 (by decide) e3b85
        have e82b86 := put_o hb86 (by decide) e82b85
        have e83b86 := put_o hb86 (by decide) e83b85
        refine (show wpFrom Tryd.prog O Q' _ (Act.put b85 (some 84) (undef)) W1 from ?_)
        rw [← hb86]
        clear hb86 Fb85 e1b85 e3b85 e82b85 e83b85
        refine pSkip 43 hO rfl ((wanted_if (g := 40) (m := 82) (c := false) rfl rfl (by rw [Fb86.size, hs0]; decide) e82b86).trans rfl) ?_
        obtain ⟨b87, hb87⟩ : ∃ x, x = Act.put b86 (some 85) (undef) := ⟨_, rfl⟩
        have Fb87 := fr_s hb87 Fb86 rfl
        have e85b87 := put_s hb87 (by rw [Fb86.size, hs0]; decide)
        have e1b87 := put_o hb87 (by decide) e1b86
        have e3b87 := put_o hb87 (by decide) e3b86
        have e82b87 := put_o hb87 (by decide) e82b86
        have e83b87 := put_o hb87 (by decide) e83b86
        have e84b87 := put_o hb87 (by decide) e84b86
        refine (show wpFrom Tryd.prog O Q' _ (Act.put b86 (some 85) (undef)) W1 from ?_)
        rw [← hb87]
        clear hb87 Fb86 e1b86 e3b86 e82b86 e83b86 e84b86
        refine pSkip 44 hO rfl ((wanted_if (g := 40) (m := 82) (c := false) rfl rfl (by rw [Fb87.size, hs0]; decide) e82b87).trans rfl) ?_
        obtain ⟨b88, hb88⟩ : ∃ x, x = Act.put b87 (some 86) (undef) := ⟨_, rfl⟩
        have Fb88 := fr_s hb88 Fb87 rfl
        have e86b88 := put_s hb88 (by rw [Fb87.size, hs0]; decide)
        have e1b88 := put_o hb88 (by decide) e1b87
        have e3b88 := put_o hb88 (by decide) e3b87
        have e82b88 := put_o hb88 (by decide) e82b87
        have e83b88 := put_o hb88 (by decide) e83b87
        have e84b88 := put_o hb88 (by decide) e84b87
        have e85b88 := put_o hb88 (by decide) e85b87
        refine (show wpFrom Tryd.prog O Q' _ (Act.put b87 (some 86) (undef)) W1 from ?_)
        rw [← hb88]
        clear hb88 Fb87 e1b87 e3b87 e82b87 e83b87 e84b87 e85b87
        refine pSkip 45 hO rfl ((wanted_if (g := 40) (m := 82) (c := false) rfl rfl (by rw [Fb88.size, hs0]; decide) e82b88).trans rfl) ?_
        obtain ⟨b89, hb89⟩ : ∃ x, x = Act.put b88 (some 87) (undef) := ⟨_, rfl⟩
        have Fb89 := fr_s hb89 Fb88 rfl
        have e87b89 := put_s hb89 (by rw [Fb88.size, hs0]; decide)
        have e1b89 := put_o hb89 (by decide) e1b88
        have e3b89 := put_o hb89 (by decide) e3b88
        have e82b89 := put_o hb89 (by decide) e82b88
        have e83b89 := put_o hb89 (by decide) e83b88
        have e84b89 := put_o hb89 (by decide) e84b88
        have e85b89 := put_o hb89 (by decide) e85b88
        have e86b89 := put_o hb89 (by decide) e86b88
        refine (show wpFrom Tryd.prog O Q' _ (Act.put b88 (some 87) (undef)) W1 from ?_)
        rw [← hb89]
        clear hb89 Fb88 e1b88 e3b88 e82b88 e83b88 e84b88 e85b88 e86b88
        refine pVal 46 (.bool false) hO rfl (wanted_none rfl) (by simp only [execOp, eval_tmpOf, eval_const, e82b89, e87b89]; first | rfl | (go_simp; done) | (go_simp; simp only [tmps_get, e82b89, e87b89]; go_simp)) ?_
        obtain ⟨b90, hb90⟩ : ∃ x, x = Act.put b89 (some 88) (.bool false) := ⟨_, rfl⟩
        have Fb90 := fr_s hb90 Fb89 rfl
        have e88b90 := put_s hb90 (by rw [Fb89.size, hs0]; decide)
        have e1b90 := put_o hb90 (by decide) e1b89
        have e3b90 := put_o hb90 (by decide) e3b89
        have e82b90 := put_o hb90 (by decide) e82b89
        have e83b90 := put_o hb90 (by decide) e83b89
        have e84b90 := put_o hb90 (by decide) e84b89
        have e85b90 := put_o hb90 (by decide) e85b89
        have e86b90 := put_o hb90 (by decide) e86b89
        have e87b90 := put_o hb90 (by decide) e87b89
        refine (show wpFrom Tryd.prog O Q' _ (Act.put b89 (some 88) (.bool false)) W1 from ?_)
        rw [← hb90]
        clear hb90 Fb89 e1b89 e3b89 e82b89 e83b89 e84b89 e85b89 e86b89 e87b89
        refine pVal 47 (.bool false) hO rfl (wanted_none rfl) (by simp only [execOp, eval_tmpOf, e88b90]; first | rfl | (go_simp; done) | (go_simp; simp only [tmps_get, e88b90]; go_simp)) ?_
        obtain ⟨b91, hb91⟩ : ∃ x, x = Act.put b90 (some 89) (.bool false) := ⟨_, rfl⟩
        have Fb91 := fr_s hb91 Fb90 rfl
        have e89b91 := put_s hb91 (by rw [Fb90.size, hs0]; decide)
        have e1b91 := put_o hb91 (by decide) e1b90
        have e3b91 := put_o hb91 (by decide) e3b90
        have e82b91 := put_o hb91 (by decide) e82b90
        have e83b91 := put_o hb91 (by decide) e83b90
        have e84b91 := put_o hb91 (by decide) e84b90
        have e85b91 := put_o hb91 (by decide) e85b90
        have e86b91 := put_o hb91 (by decide) e86b90
        have e87b91 := put_o hb91 (by decide) e87b90
        have e88b91 := put_o hb91 (by decide) e88b90
        refine (show wpFrom Tryd.prog O Q' _ (Act.put b90 (some 89) (.bool false)) W1 from ?_)
        rw [← hb91]
        clear hb91 Fb90 e1b90 e3b90 e82b90 e83b90 e84b90 e85b90 e86b90 e87b90 e88b90
        exact H _ Fb91 e89b91
      · skip
        refine pVal 41 (.int .u8 n.kind) hO rfl ((wanted_if (g := 40) (m := 82) (c := true) rfl rfl (by rw [Fb84.size, hs0]; decide) e82b84).trans rfl) (by simp only [execOp, eval_tmpOf, e3b84]; first | rfl | (go_simp; done) | (go_simp; simp only [tmps_get, e3b84]; go_simp)) ?_
        obtain ⟨b92, hb92⟩ : ∃ x, x = Act.put b84 (some 83) (.int .u8 n.kind) := ⟨_, rfl⟩
        have Fb92 := fr_s hb92 Fb84 rfl
        have e83b92 := put_s hb92 (by rw [Fb84.size, hs0]; decide)
        have e1b92 := put_o hb92 (by decide) e1b84
        have e3b92 := put_o hb92 (by decide) e3b84
        have e82b92 := put_o hb92 (by decide) e82b84
        refine (show wpFrom Tryd.prog O Q' _ (Act.put b84 (some 83) (.int .u8 n.kind)) W1 from ?_)
        rw [← hb92]
        clear hb92 Fb84 e1b84 e3b84 e82b84
        refine pVal 42 (.pointer (some ⟨W.heap.size, 8, none⟩)) hO rfl ((wanted_if (g := 40) (m := 82) (c := true) rfl rfl (by rw [Fb92.size, hs0]; decide) e82b92).trans rfl) (by simp only [execOp, eval_tmpOf, e1b92]; first | rfl | (go_simp; done) | (go_simp; simp only [tmps_get, e1b92]; go_simp)) ?_
        obtain ⟨b93, hb93⟩ : ∃ x, x = Act.put b92 (some 84) (.pointer (some ⟨W.heap.size, 8, none⟩)) := ⟨_, rfl⟩
        have Fb93 := fr_s hb93 Fb92 rfl
        have e84b93 := put_s hb93 (by rw [Fb92.size, hs0]; decide)
        have e1b93 := put_o hb93 (by decide) e1b92
        have e3b93 := put_o hb93 (by decide) e3b92
        have e82b93 := put_o hb93 (by decide) e82b92
        have e83b93 := put_o hb93 (by decide) e83b92
        refine (show wpFrom Tryd.prog O Q' _ (Act.put b92 (some 84) (.pointer (some ⟨W.heap.size, 8, none⟩))) W1 from ?_)
        rw [← hb93]
        clear hb93 Fb92 e1b92 e3b92 e82b92 e83b92
        refine pVal 43 (.int .i64 n.k) hO rfl ((wanted_if (g := 40) (m := 82) (c := true) rfl rfl (by rw [Fb93.size, hs0]; decide) e82b93).trans rfl) (by simp only [execOp, eval_tmpOf, e84b93]; first | rfl | (go_simp; done) | (go_simp; simp only [tmps_get, e84b93]; go_simp)) ?_
        obtain ⟨b94, hb94⟩ : ∃ x, x = Act.put b93 (some 85) (.int .i64 n.k) := ⟨_, rfl⟩
        have Fb94 := fr_s hb94 Fb93 rfl
        have e85b94 := put_s hb94 (by rw [Fb93.size, hs0]; decide)
        have e1b94 := put_o hb94 (by decide) e1b93
        have e3b94 := put_o hb94 (by decide) e3b93
        have e82b94 := put_o hb94 (by decide) e82b93
        have e83b94 := put_o hb94 (by decide) e83b93
        have e84b94 := put_o hb94 (by decide) e84b93
        refine (show wpFrom Tryd.prog O Q' _ (Act.put b93 (some 85) (.int .i64 n.k)) W1 from ?_)
        rw [← hb94]
        clear hb94 Fb93 e1b93 e3b93 e82b93 e83b93 e84b93
        refine pVal 44 (.int .u64 n.k) hO rfl ((wanted_if (g := 40) (m := 82) (c := true) rfl rfl (by rw [Fb94.size, hs0]; decide) e82b94).trans rfl) (by simp only [execOp, eval_tmpOf, e85b94]; first | rfl | (go_simp; done) | (go_simp; simp only [tmps_get, e85b94]; go_simp)) ?_
        obtain ⟨b95, hb95⟩ : ∃ x, x = Act.put b94 (some 86) (.int .u64 n.k) := ⟨_, rfl⟩
        have Fb95 := fr_s hb95 Fb94 rfl
        have e86b95 := put_s hb95 (by rw [Fb94.size, hs0]; decide)
        have e1b95 := put_o hb95 (by decide) e1b94
        have e3b95 := put_o hb95 (by decide) e3b94
        have e82b95 := put_o hb95 (by decide) e82b94
        have e83b95 := put_o hb95 (by decide) e83b94
        have e84b95 := put_o hb95 (by decide) e84b94
        have e85b95 := put_o hb95 (by decide) e85b94
        refine (show wpFrom Tryd.prog O Q' _ (Act.put b94 (some 86) (.int .u64 n.k)) W1 from ?_)
        rw [← hb95]
        clear hb95 Fb94 e1b94 e3b94 e82b94 e83b94 e84b94 e85b94
        refine pCall 45 (.bool t7) (args := #[.int .u8 n.kind, .int .u8 107, .int .u64 n.k, .int .u64 16]) hO rfl ((wanted_if (g := 40) (m := 82) (c := true) rfl rfl (by rw [Fb95.size, hs0]; decide) e82b95).trans rfl) (by simp only [execOp]; go_simp; simp only [tmps_get, e83b95, e86b95, and_self]) NN.out.2.2.2.2.2.2.2.1.out ?_
        obtain ⟨b96, hb96⟩ : ∃ x, x = Act.put b95 (some 87) (.bool t7) := ⟨_, rfl⟩
        have Fb96 := fr_s hb96 Fb95 rfl
        have e87b96 := put_s hb96 (by rw [Fb95.size, hs0]; decide)
        have e1b96 := put_o hb96 (by decide) e1b95
        have e3b96 := put_o hb96 (by decide) e3b95
        have e82b96 := put_o hb96 (by decide) e82b95
        have e83b96 := put_o hb96 (by decide) e83b95
        have e84b96 := put_o hb96 (by decide) e84b95
        have e85b96 := put_o hb96 (by decide) e85b95
        have e86b96 := put_o hb96 (by decide) e86b95
        refine (show wpFrom Tryd.prog O Q' _ (Act.put b95 (some 87) (.bool t7)) W1 from ?_)
        rw [← hb96]
        clear hb96 Fb95 e1b95 e3b95 e82b95 e83b95 e84b95 e85b95 e86b95
        refine pVal 46 (.bool t7) hO rfl (wanted_none rfl) (by simp only [execOp, eval_tmpOf, eval_const, e82b96, e87b96]; first | rfl | (go_simp; done) | (go_simp; simp only [tmps_get, e82b96, e87b96]; go_simp)) ?_
        obtain ⟨b97, hb97⟩ : ∃ x, x = Act.put b96 (some 88) (.bool t7) := ⟨_, rfl⟩
        have Fb97 := fr_s hb97 Fb96 rfl
        have e88b97 := put_s hb97 (by rw [Fb96.size, hs0]; decide)
        have e1b97 := put_o hb97 (by decide) e1b96
        have e3b97 := put_o hb97 (by decide) e3b96
        have e82b97 := put_o hb97 (by decide) e82b96
        have e83b97 := put_o hb97 (by decide) e83b96
        have e84b97 := put_o hb97 (by decide) e84b96
        have e85b97 := put_o hb97 (by decide) e85b96
        have e86b97 := put_o hb97 (by decide) e86b96
        have e87b97 := put_o hb97 (by decide) e87b96
        refine (show wpFrom Tryd.prog O Q' _ (Act.put b96 (some 88) (.bool t7)) W1 from ?_)
        rw [← hb97]
        clear hb97 Fb96 e1b96 e3b96 e82b96 e83b96 e84b96 e85b96 e86b96 e87b96
        refine pVal 47 (.bool t7) hO rfl (wanted_none rfl) (by simp only [execOp, eval_tmpOf, e88b97]; first | rfl | (go_simp; done) | (go_simp; simp only [tmps_get, e88b97]; go_simp)) ?_
        obtain ⟨b98, hb98⟩ : ∃ x, x = Act.put b97 (some 89) (.bool t7) := ⟨_, rfl⟩
        have Fb98 := fr_s hb98 Fb97 rfl
        have e89b98 := put_s hb98 (by rw [Fb97.size, hs0]; decide)
        have e1b98 := put_o hb98 (by decide) e1b97
        have e3b98 := put_o hb98 (by decide) e3b97
        have e82b98 := put_o hb98 (by decide) e82b97
        have e83b98 := put_o hb98 (by decide) e83b97
        have e84b98 := put_o hb98 (by decide) e84b97
        have e85b98 := put_o hb98 (by decide) e85b97
        have e86b98 := put_o hb98 (by decide) e86b97
        have e87b98 := put_o hb98 (by decide) e87b97
        have e88b98 := put_o hb98 (by decide) e88b97
        refine (show wpFrom Tryd.prog O Q' _ (Act.put b97 (some 89) (.bool t7)) W1 from ?_)
        rw [← hb98]
        clear hb98 Fb97 e1b97 e3b97 e82b97 e83b97 e84b97 e85b97 e86b97 e87b97 e88b97
        exact H _ Fb98 e89b98
    clear Fb84 e1b84 e3b84 e82b84
    intro b99 Fb99 e89b99
    have e1b99 : tmpOf b99 1 = .pointer (some ⟨W.heap.size, 0, none⟩) := (Fb99.agree 1 (by decide)).trans e1a0
    have e3b99 : tmpOf b99 3 = .int .u8 n.kind := (Fb99.agree 3 (by decide)).trans e3a0
    obtain ⟨c7, hc7⟩ : ∃ x, x = (c6 && t7) := ⟨_, rfl⟩
    rw [← hc7] at e89b99
    have Hc7 := Lib.hid hc7
    clear hc7
    suffices H : ∀ a, Fr a0 a scrR5 → tmpOf a 96 = .bool (c7 && t8) → wpFrom Tryd.prog O Q' 55 a W1 by
      cases c7
      · skip
        refine pSkip 48 hO rfl ((wanted_if (g := 47) (m := 89) (c := false) rfl rfl (by rw [Fb99.size, hs0]; decide) e89b99).trans rfl) ?_
        obtain ⟨b100, hb100⟩ : ∃ x, x = Act.put b99 (some 90) (undef) := ⟨_, rfl⟩
        have Fb100 := fr_s hb100 Fb99 rfl
        have e90b100 := put_s hb100 (by rw [Fb99.size, hs0]; decide)
        have e1b100 := put_o hb100 (by decide) e1b99
        have e3b100 := put_o hb100 (by decide) e3b99
        have e89b100 := put_o hb100 (by decide) e89b99
        refine (show wpFrom Tryd.prog O Q' _ (Act.put b99 (some 90) (undef)) W1 from ?_)
        rw [← hb100]
        clear hb100 Fb99 e1b99 e3b99 e89b99
        refine pSkip 49 hO rfl ((wanted_if (g := 47) (m := 89) (c := false) rfl rfl (by rw [Fb100.size, hs0]; decide) e89b100).trans rfl) ?_
        obtain ⟨b101, hb101⟩ : ∃ x, x = Act.put b100 (some 91) (undef) := ⟨_, rfl⟩
        have Fb101 := fr_s hb101 Fb100 rfl
        have e91b101 := put_s hb101 (by rw [Fb100.size, hs0]; decide)
        have e1b101 := put_o hb101 (by decide) e1b100
        have e3b101 := put_o hb101 (by decide) e3b100
        have e89b101 := put_o hb101 (by decide) e89b100
        have e90b101 := put_o hb101 (by decide) e90b100
        refine (show wpFrom Tryd.prog O Q' _ (Act.put b100 (some 91) (undef)) W1 from ?_)
        rw [← hb101]
        clear hb101 Fb100 e1b100 e3b100 e89b100 e90b100
        refine pSkip 50 hO rfl ((wanted_if (g := 47) (m := 89) (c := false) rfl rfl (by rw [Fb101.size, hs0]; decide) e89b101).trans rfl) ?_
        obtain ⟨b102, hb102⟩ : ∃ x, x = Act.put b101 (some 92) (undef) := ⟨_, rfl⟩
        have Fb102 := fr_s hb102 Fb101 rfl
        have e92b102 := put_s hb102 (by rw [Fb101.size, hs0]; decide)
        have e1b102 := put_o hb102 (by decide) e1b101
        have e3b102 := put_o hb102 (by decide) e3b101
        have e89b102 := put_o hb102 (by decide) e89b101
        have e90b102 := put_o hb102 (by decide) e90b101
        have e91b102 := put_o hb102 (by decide) e91b101
        refine (show wpFrom Tryd.prog O Q' _ (Act.put b101 (some 92) (undef)) W1 from ?_)
        rw [← hb102]
        clear hb102 Fb101 e1b101 e3b101 e89b101 e90b101 e91b101
        refine pSkip 51 hO rfl ((wanted_if (g := 47) (m := 89) (c := false) rfl rfl (by rw [Fb102.size, hs0]; decide) e89b102).trans rfl) ?_
        obtain ⟨b103, hb103⟩ : ∃ x, x = Act.put b102 (some 93) (undef) := ⟨_, rfl⟩
        have Fb103 := fr_s hb103 Fb102 rfl
        have e93b103 := put_s hb103 (by rw [Fb102.size, hs0]; decide)
        have e1b103 := put_o hb103 (by decide) e1b102
        have e3b103 := put_o hb103 (by decide) e3b102
        have e89b103 := put_o hb103 (by decide) e89b102
        have e90b103 := put_o hb103 (by decide) e90b102
        have e91b103 := put_o hb103 (by decide) e91b102
        have e92b103 := put_o hb103 (by decide) e92b102
        refine (show wpFrom Tryd.prog O Q' _ (Act.put b102 (some 93) (undef)) W1 from ?_)
        rw [← hb103]
        clear hb103 Fb102 e1b102 e3b102 e89b102 e90b102 e91b102 e92b102
        refine pSkip 52 hO rfl ((wanted_if (g := 47) (m := 89) (c := false) rfl rfl (by rw [Fb103.size, hs0]; decide) e89b103).trans rfl) ?_
        obtain ⟨b104, hb104⟩ : ∃ x, x = Act.put b103 (some 94) (undef) := ⟨_, rfl⟩
        have Fb104 := fr_s hb104 Fb103 rfl
        have e94b104 := put_s hb104 (by rw [Fb103.size, hs0]; decide)
        have e1b104 := put_o hb104 (by decide) e1b103
        have e3b104 := put_o hb104 (by decide) e3b103
        have e89b104 := put_o hb104 (by decide) e89b103
        have e90b104 := put_o hb104 (by decide) e90b103
        have e91b104 := put_o hb104 (by decide) e91b103
        have e92b104 := put_o hb104 (by decide) e92b103
        have e93b104 := put_o hb104 (by decide) e93b103
        refine (show wpFrom Tryd.prog O Q' _ (Act.put b103 (some 94) (undef)) W1 from ?_)
        rw [← hb104]
        clear hb104 Fb103 e1b103 e3b103 e89b103 e90b103 e91b103 e92b103 e93b103
        refine pVal 53 (.bool false) hO rfl (wanted_none rfl) (by simp only [execOp, eval_tmpOf, eval_const, e89b104, e94b104]; first | rfl | (go_simp; done) | (go_simp; simp only [tmps_get, e89b104, e94b104]; go_simp)) ?_
        obtain ⟨b105, hb105⟩ : ∃ x, x = Act.put b104 (some 95) (.bool false) := ⟨_, rfl⟩
        have Fb105 := fr_s hb105 Fb104 rfl
        have e95b105 := put_s hb105 (by rw [Fb104.size, hs0]; decide)
        have e1b105 := put_o hb105 (by decide) e1b104
        have e3b105 := put_o hb105 (by decide) e3b104
        have e89b105 := put_o hb105 (by decide) e89b104
        have e90b105 := put_o hb105 (by decide) e90b104
        have e91b105 := put_o hb105 (by decide) e91b104
        have e92b105 := put_o hb105 (by decide) e92b104
        have e93b105 := put_o hb105 (by decide) e93b104
        have e94b105 := put_o hb105 (by decide) e94b104
        refine (show wpFrom Tryd.prog O Q' _ (Act.put b104 (some 95) (.bool false)) W1 from ?_)
        rw [← hb105]
        clear hb105 Fb104 e1b104 e3b104 e89b104 e90b104 e91b104 e92b104 e93b104 e94b104
        refine pVal 54 (.bool false) hO rfl (wanted_none rfl) (by simp only [execOp, eval_tmpOf, e95b105]; first | rfl | (go_simp; done) | (go_simp; simp only [tmps_get, e95b105]; go_simp)) ?_
        obtain ⟨b106, hb106⟩ : ∃ x, x = Act.put b105 (some 96) (.bool false) := ⟨_, rfl⟩
        have Fb106 := fr_s hb106 Fb105 rfl
        have e96b106 := put_s hb106 (by rw [Fb105.size, hs0]; decide)
        have e1b106 := put_o hb106 (by decide) e1b105
        have e3b106 := put_o hb106 (by decide) e3b105
        have e89b106 := put_o hb106 (by decide) e89b105
        have e90b106 := put_o hb106 (by decide) e90b105
        have e91b106 := put_o hb106 (by decide) e91b105
        have e92b106 := put_o hb106 (by decide) e92b105
        have e93b106 := put_o hb106 (by decide) e93b105
        have e94b106 := put_o hb106 (by decide) e94b105
        have e95b106 := put_o hb106 (by decide) e95b105
        refine (show wpFrom Tryd.prog O Q' _ (Act.put b105 (some 96) (.bool false)) W1 from ?_)
        rw [← hb106]
        clear hb106 Fb105 e1b105 e3b105 e89b105 e90b105 e91b105 e92b105 e93b105 e94b105 e95b105
        exact H _ Fb106 e96b106
      · skip
        refine pVal 48 (.int .u8 n.kind) hO rfl ((wanted_if (g := 47) (m := 89) (c := true) rfl rfl (by rw [Fb99.size, hs0]; decide) e89b99).trans rfl) (by simp only [execOp, eval_tmpOf, e3b99]; first | rfl | (go_simp; done) | (go_simp; simp only [tmps_get, e3b99]; go_simp)) ?_
        obtain ⟨b107, hb107⟩ : ∃ x, x = Act.put b99 (some 90) (.int .u8 n.kind) := ⟨_, rfl⟩
        have Fb107 := fr_s hb107 Fb99 rfl
        have e90b107 := put_s hb107 (by rw [Fb99.size, hs0]; decide)
        have e1b107 := put_o hb107 (by decide) e1b99
        have e3b107 := put_o hb107 (by decide) e3b99
        have e89b107 := put_o hb107 (by decide) e89b99
        refine (show wpFrom Tryd.prog O Q' _ (Act.put b99 (some 90) (.int .u8 n.kind)) W1 from ?_)
        rw [← hb107]
        clear hb107 Fb99 e1b99 e3b99 e89b99
        refine pVal 49 (.pointer (some ⟨W.heap.size, 9, none⟩)) hO rfl ((wanted_if (g := 47) (m := 89) (c := true) rfl rfl (by rw [Fb107.size, hs0]; decide) e89b107).trans rfl) (by simp only [execOp, eval_tmpOf, e1b107]; first | rfl | (go_simp; done) | (go_simp; simp only [tmps_get, e1b107]; go_simp)) ?_
        obtain ⟨b108, hb108⟩ : ∃ x, x = Act.put b107 (some 91) (.pointer (some ⟨W.heap.size, 9, none⟩)) := ⟨_, rfl⟩
        have Fb108 := fr_s hb108 Fb107 rfl
        have e91b108 := put_s hb108 (by rw [Fb107.size, hs0]; decide)
        have e1b108 := put_o hb108 (by decide) e1b107
        have e3b108 := put_o hb108 (by decide) e3b107
        have e89b108 := put_o hb108 (by decide) e89b107
        have e90b108 := put_o hb108 (by decide) e90b107
        refine (show wpFrom Tryd.prog O Q' _ (Act.put b107 (some 91) (.pointer (some ⟨W.heap.size, 9, none⟩))) W1 from ?_)
        rw [← hb108]
        clear hb108 Fb107 e1b107 e3b107 e89b107 e90b107
        refine pVal 50 (.int .i64 n.ef) hO rfl ((wanted_if (g := 47) (m := 89) (c := true) rfl rfl (by rw [Fb108.size, hs0]; decide) e89b108).trans rfl) (by simp only [execOp, eval_tmpOf, e91b108]; first | rfl | (go_simp; done) | (go_simp; simp only [tmps_get, e91b108]; go_simp)) ?_
        obtain ⟨b109, hb109⟩ : ∃ x, x = Act.put b108 (some 92) (.int .i64 n.ef) := ⟨_, rfl⟩
        have Fb109 := fr_s hb109 Fb108 rfl
        have e92b109 := put_s hb109 (by rw [Fb108.size, hs0]; decide)
        have e1b109 := put_o hb109 (by decide) e1b108
        have e3b109 := put_o hb109 (by decide) e3b108
        have e89b109 := put_o hb109 (by decide) e89b108
        have e90b109 := put_o hb109 (by decide) e90b108
        have e91b109 := put_o hb109 (by decide) e91b108
        refine (show wpFrom Tryd.prog O Q' _ (Act.put b108 (some 92) (.int .i64 n.ef)) W1 from ?_)
        rw [← hb109]
        clear hb109 Fb108 e1b108 e3b108 e89b108 e90b108 e91b108
        refine pVal 51 (.int .u64 n.ef) hO rfl ((wanted_if (g := 47) (m := 89) (c := true) rfl rfl (by rw [Fb109.size, hs0]; decide) e89b109).trans rfl) (by simp only [execOp, eval_tmpOf, e92b109]; first | rfl | (go_simp; done) | (go_simp; simp only [tmps_get, e92b109]; go_simp)) ?_
        obtain ⟨b110, hb110⟩ : ∃ x, x = Act.put b109 (some 93) (.int .u64 n.ef) := ⟨_, rfl⟩
        have Fb110 := fr_s hb110 Fb109 rfl
        have e93b110 := put_s hb110 (by rw [Fb109.size, hs0]; decide)
        have e1b110 := put_o hb110 (by decide) e1b109
        have e3b110 := put_o hb110 (by decide) e3b109
        have e89b110 := put_o hb110 (by decide) e89b109
        have e90b110 := put_o hb110 (by decide) e90b109
        have e91b110 := put_o hb110 (by decide) e91b109
        have e92b110 := put_o hb110 (by decide) e92b109
        refine (show wpFrom Tryd.prog O Q' _ (Act.put b109 (some 93) (.int .u64 n.ef)) W1 from ?_)
        rw [← hb110]
        clear hb110 Fb109 e1b109 e3b109 e89b109 e90b109 e91b109 e92b109
        refine pCall 52 (.bool t8) (args := #[.int .u8 n.kind, .int .u8 101, .int .u64 n.ef, .int .u64 256]) hO rfl ((wanted_if (g := 47) (m := 89) (c := true) rfl rfl (by rw [Fb110.size, hs0]; decide) e89b110).trans rfl) (by simp only [execOp]; go_simp; simp only [tmps_get, e90b110, e93b110, and_self]) NN.out.2.2.2.2.2.2.2.2.1.out ?_
        obtain ⟨b111, hb111⟩ : ∃ x, x = Act.put b110 (some 94) (.bool t8) := ⟨_, rfl⟩
        have Fb111 := fr_s hb111 Fb110 rfl
        have e94b111 := put_s hb111 (by rw [Fb110.size, hs0]; decide)
        have e1b111 := put_o hb111 (by decide) e1b110
        have e3b111 := put_o hb111 (by decide) e3b110
        have e89b111 := put_o hb111 (by decide) e89b110
        have e90b111 := put_o hb111 (by decide) e90b110
        have e91b111 := put_o hb111 (by decide) e91b110
        have e92b111 := put_o hb111 (by decide) e92b110
        have e93b111 := put_o hb111 (by decide) e93b110
        refine (show wpFrom Tryd.prog O Q' _ (Act.put b110 (some 94) (.bool t8)) W1 from ?_)
        rw [← hb111]
        clear hb111 Fb110 e1b110 e3b110 e89b110 e90b110 e91b110 e92b110 e93b110
        refine pVal 53 (.bool t8) hO rfl (wanted_none rfl) (by simp only [execOp, eval_tmpOf, eval_const, e89b111, e94b111]; first | rfl | (go_simp; done) | (go_simp; simp only [tmps_get, e89b111, e94b111]; go_simp)) ?_
        obtain ⟨b112, hb112⟩ : ∃ x, x = Act.put b111 (some 95) (.bool t8) := ⟨_, rfl⟩
        have Fb112 := fr_s hb112 Fb111 rfl
        have e95b112 := put_s hb112 (by rw [Fb111.size, hs0]; decide)
        have e1b112 := put_o hb112 (by decide) e1b111
        have e3b112 := put_o hb112 (by decide) e3b111
        have e89b112 := put_o hb112 (by decide) e89b111
        have e90b112 := put_o hb112 (by decide) e90b111
        have e91b112 := put_o hb112 (by decide) e91b111
        have e92b112 := put_o hb112 (by decide) e92b111
        have e93b112 := put_o hb112 (by decide) e93b111
        have e94b112 := put_o hb112 (by decide) e94b111
        refine (show wpFrom Tryd.prog O Q' _ (Act.put b111 (some 95) (.bool t8)) W1 from ?_)
        rw [← hb112]
        clear hb112 Fb111 e1b111 e3b111 e89b111 e90b111 e91b111 e92b111 e93b111 e94b111
        refine pVal 54 (.bool t8) hO rfl (wanted_none rfl) (by simp only [execOp, eval_tmpOf, e95b112]; first | rfl | (go_simp; done) | (go_simp; simp only [tmps_get, e95b112]; go_simp)) ?_
        obtain ⟨b113, hb113⟩ : ∃ x, x = Act.put b112 (some 96) (.bool t8) := ⟨_, rfl⟩
        have Fb113 := fr_s hb113 Fb112 rfl
        have e96b113 := put_s hb113 (by rw [Fb112.size, hs0]; decide)
        have e1b113 := put_o hb113 (by decide) e1b112
        have e3b113 := put_o hb113 (by decide) e3b112
        have e89b113 := put_o hb113 (by decide) e89b112
        have e90b113 := put_o hb113 (by decide) e90b112
        have e91b113 := put_o hb113 (by decide) e91b112
        have e92b113 := put_o hb113 (by decide) e92b112
        have e93b113 := put_o hb113 (by decide) e93b112
        have e94b113 := put_o hb113 (by decide) e94b112
        have e95b113 := put_o hb113 (by decide) e95b112
        refine (show wpFrom Tryd.prog O Q' _ (Act.put b112 (some 96) (.bool t8)) W1 from ?_)
        rw [← hb113]
        clear hb113 Fb112 e1b112 e3b112 e89b112 e90b112 e91b112 e92b112 e93b112 e94b112 e95b112
        exact H _ Fb113 e96b113
    clear Fb99 e1b99 e3b99 e89b99
    intro b114 Fb114 e96b114
    have e1b114 : tmpOf b114 1 = .pointer (some ⟨W.heap.size, 0, none⟩) := (Fb114.agree 1 (by decide)).trans e1a0
    have e3b114 : tmpOf b114 3 = .int .u8 n.kind := (Fb114.agree 3 (by decide)).trans e3a0
    obtain ⟨c8, hc8⟩ : ∃ x, x = (c7 && t8) := ⟨_, rfl⟩
    rw [← hc8] at e96b114
    have Hc8 := Lib.hid hc8
    clear hc8
    suffices H : ∀ a, Fr a0 a scrR5 → tmpOf a 103 = .bool (c8 && t9) → wpFrom Tryd.prog O Q' 62 a W1 by
      cases c8
      · skip
        refine pSkip 55 hO rfl ((wanted_if (g := 54) (m := 96) (c := false) rfl rfl (by rw [Fb114.size, hs0]; decide) e96b114).trans rfl) ?_
        obtain ⟨b115, hb115⟩ : ∃ x, x = Act.put b114 (some 97) (undef) := ⟨_, rfl⟩
        have Fb115 := fr_s hb115 Fb114 rfl
        have e97b115 := put_s hb115 (by rw [Fb114.size, hs0]; decide)
        have e1b115 := put_o hb115 (by decide) e1b114
        have e3b115 := put_o hb115 (by decide) e3b114
        have e96b115 := put_o hb115 (by decide) e96b114
        refine (show wpFrom Tryd.prog O Q' _ (Act.put b114 (some 97) (undef)) W1 from ?_)
        rw [← hb115]
        clear hb115 Fb114 e1b114 e3b114 e96b114
        refine pSkip 56 hO rfl ((wanted_if (g := 54) (m := 96) (c := false) rfl rfl (by rw [Fb115.size, hs0]; decide) e96b115).trans rfl) ?_
        obtain ⟨b116, hb116⟩ : ∃ x, x = Act.put b115 (some 98) (undef) := ⟨_, rfl⟩
        have Fb116 := fr_s hb116 Fb115 rfl
        have e98b116 := put_s hb116 (by rw [Fb115.size, hs0]; decide)
        have e1b116 := put_o hb116 (by decide) e1b115
        have e3b116 := put_o hb116 (by decide) e3b115
        have e96b116 := put_o hb116 (by decide) e96b115
        have e97b116 := put_o hb116 (by decide) e97b115
        refine (show wpFrom Tryd.prog O Q' _ (Act.put b115 (some 98) (undef)) W1 from ?_)
        rw [← hb116]
        clear hb116 Fb115 e1b115 e3b115 e96b115 e97b115
        refine pSkip 57 hO rfl ((wanted_if (g := 54) (m := 96) (c := false) rfl rfl (by rw [Fb116.size, hs0]; decide) e96b116).trans rfl) ?_
        obtain ⟨b117, hb117⟩ : ∃ x, x = Act.put b116 (some 99) (undef) := ⟨_, rfl⟩
        have Fb117 := fr_s hb117 Fb116 rfl
        have e99b117 := put_s hb117 (by rw [Fb116.size, hs0]; decide)
        have e1b117 := put_o hb117 (by decide) e1b116
        have e3b117 := put_o hb117 (by decide) e3b116
        have e96b117 := put_o hb117 (by decide) e96b116
        have e97b117 := put_o hb117 (by decide) e97b116
        have e98b117 := put_o hb117 (by decide) e98b116
        refine (show wpFrom Tryd.prog O Q' _ (Act.put b116 (some 99) (undef)) W1 from ?_)
        rw [← hb117]
        clear hb117 Fb116 e1b116 e3b116 e96b116 e97b116 e98b116
        refine pSkip 58 hO rfl ((wanted_if (g := 54) (m := 96) (c := false) rfl rfl (by rw [Fb117.size, hs0]; decide) e96b117).trans rfl) ?_
        obtain ⟨b118, hb118⟩ : ∃ x, x = Act.put b117 (some 100) (undef) := ⟨_, rfl⟩
        have Fb118 := fr_s hb118 Fb117 rfl
        have e100b118 := put_s hb118 (by rw [Fb117.size, hs0]; decide)
        have e1b118 := put_o hb118 (by decide) e1b117
        have e3b118 := put_o hb118 (by decide) e3b117
        have e96b118 := put_o hb118 (by decide) e96b117
        have e97b118 := put_o hb118 (by decide) e97b117
        have e98b118 := put_o hb118 (by decide) e98b117
        have e99b118 := put_o hb118 (by decide) e99b117
        refine (show wpFrom Tryd.prog O Q' _ (Act.put b117 (some 100) (undef)) W1 from ?_)
        rw [← hb118]
        clear hb118 Fb117 e1b117 e3b117 e96b117 e97b117 e98b117 e99b117
        refine pSkip 59 hO rfl ((wanted_if (g := 54) (m := 96) (c := false) rfl rfl (by rw [Fb118.size, hs0]; decide) e96b118).trans rfl) ?_
        obtain ⟨b119, hb119⟩ : ∃ x, x = Act.put b118 (some 101) (undef) := ⟨_, rfl⟩
        have Fb119 := fr_s hb119 Fb118 rfl
        have e101b119 := put_s hb119 (by rw [Fb118.size, hs0]; decide)
        have e1b119 := put_o hb119 (by decide) e1b118
        have e3b119 := put_o hb119 (by decide) e3b118
        have e96b119 := put_o hb119 (by decide) e96b118
        have e97b119 := put_o hb119 (by decide) e97b118
        have e98b119 := put_o hb119 (by decide) e98b118
        have e99b119 := put_o hb119 (by decide) e99b118
        have e100b119 := put_o hb119 (by decide) e100b118
        refine (show wpFrom Tryd.prog O Q' _ (Act.put b118 (some 101) (undef)) W1 from ?_)
        rw [← hb119]
        clear hb119 Fb118 e1b118 e3b118 e96b118 e97b118 e98b118 e99b118 e100b118
        refine pVal 60 (.bool false) hO rfl (wanted_none rfl) (by simp only [execOp, eval_tmpOf, eval_const, e96b119, e101b119]; first | rfl | (go_simp; done) | (go_simp; simp only [tmps_get, e96b119, e101b119]; go_simp)) ?_
        obtain ⟨b120, hb120⟩ : ∃ x, x = Act.put b119 (some 102) (.bool false) := ⟨_, rfl⟩
        have Fb120 := fr_s hb120 Fb119 rfl
        have e102b120 := put_s hb120 (by rw [Fb119.size, hs0]; decide)
        have e1b120 := put_o hb120 (by decide) e1b119
        have e3b120 := put_o hb120 (by decide) e3b119
        have e96b120 := put_o hb120 (by decide) e96b119
        have e97b120 := put_o hb120 (by decide) e97b119
        have e98b120 := put_o hb120 (by decide) e98b119
        have e99b120 := put_o hb120 (by decide) e99b119
        have e100b120 := put_o hb120 (by decide) e100b119
        have e101b120 := put_o hb120 (by decide) e101b119
        refine (show wpFrom Tryd.prog O Q' _ (Act.put b119 (some 102) (.bool false)) W1 from ?_)
        rw [← hb120]
        clear hb120 Fb119 e1b119 e3b119 e96b119 e97b119 e98b119 e99b119 e100b119 e101b119
        refine pVal 61 (.bool false) hO rfl (wanted_none rfl) (by simp only [execOp, eval_tmpOf, e102b120]; first | rfl | (go_simp; done) | (go_simp; simp only [tmps_get, e102b120]; go_simp)) ?_
        obtain ⟨b121, hb121⟩ : ∃ x, x = Act.put b120 (some 103) (.bool false) := ⟨_, rfl⟩
        have Fb121 := fr_s hb121 Fb120 rfl
        have e103b121 := put_s hb121 (by rw [Fb120.size, hs0]; decide)
        have e1b121 := put_o hb121 (by decide) e1b120
        have e3b121 := put_o hb121 (by decide) e3b120
        have e96b121 := put_o hb121 (by decide) e96b120
        have e97b121 := put_o hb121 (by decide) e97b120
        have e98b121 := put_o hb121 (by decide) e98b120
        have e99b121 := put_o hb121 (by decide) e99b120
        have e100b121 := put_o hb121 (by decide) e100b120
        have e101b121 := put_o hb121 (by decide) e101b120
        have e102b121 := put_o hb121 (by decide) e102b120
        refine (show wpFrom Tryd.prog O Q' _ (Act.put b120 (some 103) (.bool false)) W1 from ?_)
        rw [← hb121]
        clear hb121 Fb120 e1b120 e3b120 e96b120 e97b120 e98b120 e99b120 e100b120 e101b120 e102b120
        exact H _ Fb121 e103b121
      · skip
        refine pVal 55 (.int .u8 n.kind) hO rfl ((wanted_if (g := 54) (m := 96) (c := true) rfl rfl (by rw [Fb114.size, hs0]; decide) e96b114).trans rfl) (by simp only [execOp, eval_tmpOf, e3b114]; first | rfl | (go_simp; done) | (go_simp; simp only [tmps_get, e3b114]; go_simp)) ?_
        obtain ⟨b122, hb122⟩ : ∃ x, x = Act.put b114 (some 97) (.int .u8 n.kind) := ⟨_, rfl⟩
        have Fb122 := fr_s hb122 Fb114 rfl
        have e97b122 := put_s hb122 (by rw [Fb114.size, hs0]; decide)
        have e1b122 := put_o hb122 (by decide) e1b114
        have e3b122 := put_o hb122 (by decide) e3b114
        have e96b122 := put_o hb122 (by decide) e96b114
        refine (show wpFrom Tryd.prog O Q' _ (Act.put b114 (some 97) (.int .u8 n.kind)) W1 from ?_)
        rw [← hb122]
        clear hb122 Fb114 e1b114 e3b114 e96b114
        refine pVal 56 (.pointer (some ⟨W.heap.size, 10, none⟩)) hO rfl ((wanted_if (g := 54) (m := 96) (c := true) rfl rfl (by rw [Fb122.size, hs0]; decide) e96b122).trans rfl) (by simp only [execOp, eval_tmpOf, e1b122]; first | rfl | (go_simp; done) | (go_simp; simp only [tmps_get, e1b122]; go_simp)) ?_
        obtain ⟨b123, hb123⟩ : ∃ x, x = Act.put b122 (some 98) (.pointer (some ⟨W.heap.size, 10, none⟩)) := ⟨_, rfl⟩
        have Fb123 := fr_s hb123 Fb122 rfl
        have e98b123 := put_s hb123 (by rw [Fb122.size, hs0]; decide)
        have e1b123 := put_o hb123 (by decide) e1b122
        have e3b123 := put_o hb123 (by decide) e3b122
        have e96b123 := put_o hb123 (by decide) e96b122
        have e97b123 := put_o hb123 (by decide) e97b122
        refine (show wpFrom Tryd.prog O Q' _ (Act.put b122 (some 98) (.pointer (some ⟨W.heap.size, 10, none⟩))) W1 from ?_)
        rw [← hb123]
        clear hb123 Fb122 e1b122 e3b122 e96b122 e97b122
        refine pVal 57 (.int .i64 n.code) hO rfl ((wanted_if (g := 54) (m := 96) (c := true) rfl rfl (by rw [Fb123.size, hs0]; decide) e96b123).trans rfl) (by simp only [execOp, eval_tmpOf, e98b123]; first | rfl | (go_simp; done) | (go_simp; simp only [tmps_get, e98b123]; go_simp)) ?_
        obtain ⟨b124, hb124⟩ : ∃ x, x = Act.put b123 (some 99) (.int .i64 n.code) := ⟨_, rfl⟩
        have Fb124 := fr_s hb124 Fb123 rfl
        have e99b124 := put_s hb124 (by rw [Fb123.size, hs0]; decide)
        have e1b124 := put_o hb124 (by decide) e1b123
        have e3b124 := put_o hb124 (by decide) e3b123
        have e96b124 := put_o hb124 (by decide) e96b123
        have e97b124 := put_o hb124 (by decide) e97b123
        have e98b124 := put_o hb124 (by decide) e98b123
        refine (show wpFrom Tryd.prog O Q' _ (Act.put b123 (some 99) (.int .i64 n.code)) W1 from ?_)
        rw [← hb124]
        clear hb124 Fb123 e1b123 e3b123 e96b123 e97b123 e98b123
        refine pVal 58 (.int .u64 n.code) hO rfl ((wanted_if (g := 54) (m := 96) (c := true) rfl rfl (by rw [Fb124.size, hs0]; decide) e96b124).trans rfl) (by simp only [execOp, eval_tmpOf, e99b124]; first | rfl | (go_simp; done) | (go_simp; simp only [tmps_get, e99b124]; go_simp)) ?_
        obtain ⟨b125, hb125⟩ : ∃ x, x = Act.put b124 (some 100) (.int .u64 n.code) := ⟨_, rfl⟩
        have Fb125 := fr_s hb125 Fb124 rfl
        have e100b125 := put_s hb125 (by rw [Fb124.size, hs0]; decide)
        have e1b125 := put_o hb125 (by decide) e1b124
        have e3b125 := put_o hb125 (by decide) e3b124
        have e96b125 := put_o hb125 (by decide) e96b124
        have e97b125 := put_o hb125 (by decide) e97b124
        have e98b125 := put_o hb125 (by decide) e98b124
        have e99b125 := put_o hb125 (by decide) e99b124
        refine (show wpFrom Tryd.prog O Q' _ (Act.put b124 (some 100) (.int .u64 n.code)) W1 from ?_)
        rw [← hb125]
        clear hb125 Fb124 e1b124 e3b124 e96b124 e97b124 e98b124 e99b124
        refine pCall 59 (.bool t9) (args := #[.int .u8 n.kind, .int .u8 99, .int .u64 n.code, .int .u64 13]) hO rfl ((wanted_if (g := 54) (m := 96) (c := true) rfl rfl (by rw [Fb125.size, hs0]; decide) e96b125).trans rfl) (by simp only [execOp]; go_simp; simp only [tmps_get, e97b125, e100b125, and_self]) NN.out.2.2.2.2.2.2.2.2.2.1.out ?_
        obtain ⟨b126, hb126⟩ : ∃ x, x = Act.put b125 (some 101) (.bool t9) := ⟨_, rfl⟩
        have Fb126 := fr_s hb126 Fb125 rfl
        have e101b126 := put_s hb126 (by rw [Fb125.size, hs0]; decide)
        have e1b126 := put_o hb126 (by decide) e1b125
        have e3b126 := put_o hb126 (by decide) e3b125
        have e96b126 := put_o hb126 (by decide) e96b125
        have e97b126 := put_o hb126 (by decide) e97b125
        have e98b126 := put_o hb126 (by decide) e98b125
        have e99b126 := put_o hb126 (by decide) e99b125
        have e100b126 := put_o hb126 (by decide) e100b125
        refine (show wpFrom Tryd.prog O Q' _ (Act.put b125 (some 101) (.bool t9)) W1 from ?_)
        rw [← hb126]
        clear hb126 Fb125 e1b125 e3b125 e96b125 e97b125 e98b125 e99b125 e100b125
        refine pVal 60 (.bool t9) hO rfl (wanted_none rfl) (by simp only [execOp, eval_tmpOf, eval_const, e96b126, e101b126]; first | rfl | (go_simp; done) | (go_simp; simp only [tmps_get, e96b126, e101b126]; go_simp)) ?_
        obtain ⟨b127, hb127⟩ : ∃ x, x = Act.put b126 (some 102) (.bool t9) := ⟨_, rfl⟩
        have Fb127 := fr_s hb127 Fb126 rfl
        have e102b127 := put_s hb127 (by rw [Fb126.size, hs0]; decide)
        have e1b127 := put_o hb127 (by decide) e1b126
        have e3b127 := put_o hb127 (by decide) e3b126
        have e96b127 := put_o hb127 (by decide) e96b126
        have e97b127 := put_o hb127 (by decide) e97b126
        have e98b127 := put_o hb127 (by decide) e98b126
        have e99b127 := put_o hb127 (by decide) e99b126
        have e100b127 := put_o hb127 (by decide) e100b126
        have e101b127 := put_o hb127 (by decide) e101b126
        refine (show wpFrom Tryd.prog O Q' _ (Act.put b126 (some 102) (.bool t9)) W1 from ?_)
        rw [← hb127]
        clear hb127 Fb126 e1b126 e3b126 e96b126 e97b126 e98b126 e99b126 e100b126 e101b126
        refine pVal 61 (.bool t9) hO rfl (wanted_none rfl) (by simp only [execOp, eval_tmpOf, e102b127]; first | rfl | (go_simp; done) | (go_simp; simp only [tmps_get, e102b127]; go_simp)) ?_
        obtain ⟨b128, hb128⟩ : ∃ x, x = Act.put b127 (some 103) (.bool t9) := ⟨_, rfl⟩
        have Fb128 := fr_s hb128 Fb127 rfl
        have e103b128 := put_s hb128 (by rw [Fb127.size, hs0]; decide)
        have e1b128 := put_o hb128 (by decide) e1b127
        have e3b128 := put_o hb128 (by decide) e3b127
        have e96b128 := put_o hb128 (by decide) e96b127
        have e97b128 := put_o hb128 (by decide) e97b127
        have e98b128 := put_o hb128 (by decide) e98b127
        have e99b128 := put_o hb128 (by decide) e99b127
        have e100b128 := put_o hb128 (by decide) e100b127
        have e101b128 := put_o hb128 (by decide) e101b127
        have e102b128 := put_o hb128 (by decide) e102b127
        refine (show wpFrom Tryd.prog O Q' _ (Act.put b127 (some 103) (.bool t9)) W1 from ?_)
        rw [← hb128]
        clear hb128 Fb127 e1b127 e3b127 e96b127 e97b127 e98b127 e99b127 e100b127 e101b127 e102b127
        exact H _ Fb128 e103b128
    clear Fb114 e1b114 e3b114 e96b114
    intro b129 Fb129 e103b129
    have e1b129 : tmpOf b129 1 = .pointer (some ⟨W.heap.size, 0, none⟩) := (Fb129.agree 1 (by decide)).trans e1a0
    have e3b129 : tmpOf b129 3 = .int .u8 n.kind := (Fb129.agree 3 (by decide)).trans e3a0
    obtain ⟨c9, hc9⟩ : ∃ x, x = (c8 && t9) := ⟨_, rfl⟩
    rw [← hc9] at e103b129
    have Hc9 := Lib.hid hc9
    clear hc9
    suffices H : ∀ a, Fr a0 a scrR5 → tmpOf a 6 = .bool (c9 && t10) → wpFrom Tryd.prog O Q' 69 a W1 by
      cases c9
      · skip
        refine pSkip 62 hO rfl ((wanted_if (g := 61) (m := 103) (c := false) rfl rfl (by rw [Fb129.size, hs0]; decide) e103b129).trans rfl) ?_
        obtain ⟨b130, hb130⟩ : ∃ x, x = Act.put b129 (some 104) (undef) := ⟨_, rfl⟩
        have Fb130 := fr_s hb130 Fb129 rfl
        have e104b130 := put_s hb130 (by rw [Fb129.size, hs0]; decide)
        have e1b130 := put_o hb130 (by decide) e1b129
        have e3b130 := put_o hb130 (by decide) e3b129
        have e103b130 := put_o hb130 (by decide) e103b129
        refine (show wpFrom Tryd.prog O Q' _ (Act.put b129 (some 104) (undef)) W1 from ?_)
        rw [← hb130]
        clear hb130 Fb129 e1b129 e3b129 e103b129
        refine pSkip 63 hO rfl ((wanted_if (g := 61) (m := 103) (c := false) rfl rfl (by rw [Fb130.size, hs0]; decide) e103b130).trans rfl) ?_
        obtain ⟨b131, hb131⟩ : ∃ x, x = Act.put b130 (some 105) (undef) := ⟨_, rfl⟩
        have Fb131 := fr_s hb131 Fb130 rfl
        have e105b131 := put_s hb131 (by rw [Fb130.size, hs0]; decide)
        have e1b131 := put_o hb131 (by decide) e1b130
        have e3b131 := put_o hb131 (by decide) e3b130
        have e103b131 := put_o hb131 (by decide) e103b130
        have e104b131 := put_o hb131 (by decide) e104b130
        refine (show wpFrom Tryd.prog O Q' _ (Act.put b130 (some 105) (undef)) W1 from ?_)
        rw [← hb131]
        clear hb131 Fb130 e1b130 e3b130 e103b130 e104b130
        refine pSkip 64 hO rfl ((wanted_if (g := 61) (m := 103) (c := false) rfl rfl (by rw [Fb131.size, hs0]; decide) e103b131).trans rfl) ?_
        obtain ⟨b132, hb132⟩ : ∃ x, x = Act.put b131 (some 106) (undef) := ⟨_, rfl⟩
        have Fb132 := fr_s hb132 Fb131 rfl
        have e106b132 := put_s hb132 (by rw [Fb131.size, hs0]; decide)
        have e1b132 := put_o hb132 (by decide) e1b131
        have e3b132 := put_o hb132 (by decide) e3b131
        have e103b132 := put_o hb132 (by decide) e103b131
        have e104b132 := put_o hb132 (by decide) e104b131
        have e105b132 := put_o hb132 (by decide) e105b131
        refine (show wpFrom Tryd.prog O Q' _ (Act.put b131 (some 106) (undef)) W1 from ?_)
        rw [← hb132]
        clear hb132 Fb131 e1b131 e3b131 e103b131 e104b131 e105b131
        refine pSkip 65 hO rfl ((wanted_if (g := 61) (m := 103) (c := false) rfl rfl (by rw [Fb132.size, hs0]; decide) e103b132).trans rfl) ?_
        obtain ⟨b133, hb133⟩ : ∃ x, x = Act.put b132 (some 107) (undef) := ⟨_, rfl⟩
        have Fb133 := fr_s hb133 Fb132 rfl
        have e107b133 := put_s hb133 (by rw [Fb132.size, hs0]; decide)
        have e1b133 := put_o hb133 (by decide) e1b132
        have e3b133 := put_o hb133 (by decide) e3b132
        have e103b133 := put_o hb133 (by decide) e103b132
        have e104b133 := put_o hb133 (by decide) e104b132
        have e105b133 := put_o hb133 (by decide) e105b132
        have e106b133 := put_o hb133 (by decide) e106b132
        refine (show wpFrom Tryd.prog O Q' _ (Act.put b132 (some 107) (undef)) W1 from ?_)
        rw [← hb133]
        clear hb133 Fb132 e1b132 e3b132 e103b132 e104b132 e105b132 e106b132
        refine pSkip 66 hO rfl ((wanted_if (g := 61) (m := 103) (c := false) rfl rfl (by rw [Fb133.size, hs0]; decide) e103b133).trans rfl) ?_
        obtain ⟨b134, hb134⟩ : ∃ x, x = Act.put b133 (some 108) (undef) := ⟨_, rfl⟩
        have Fb134 := fr_s hb134 Fb133 rfl
        have e108b134 := put_s hb134 (by rw [Fb133.size, hs0]; decide)
        have e1b134 := put_o hb134 (by decide) e1b133
        have e3b134 := put_o hb134 (by decide) e3b133
        have e103b134 := put_o hb134 (by decide) e103b133
        have e104b134 := put_o hb134 (by decide) e104b133
        have e105b134 := put_o hb134 (by decide) e105b133
        have e106b134 := put_o hb134 (by decide) e106b133
        have e107b134 := put_o hb134 (by decide) e107b133
        refine (show wpFrom Tryd.prog O Q' _ (Act.put b133 (some 108) (undef)) W1 from ?_)
        rw [← hb134]
        clear hb134 Fb133 e1b133 e3b133 e103b133 e104b133 e105b133 e106b133 e107b133
        refine pVal 67 (.bool false) hO rfl (wanted_none rfl) (by simp only [execOp, eval_tmpOf, eval_const, e103b134, e108b134]; first | rfl | (go_simp; done) | (go_simp; simp only [tmps_get, e103b134, e108b134]; go_simp)) ?_
        obtain ⟨b135, hb135⟩ : ∃ x, x = Act.put b134 (some 109) (.bool false) := ⟨_, rfl⟩
        have Fb135 := fr_s hb135 Fb134 rfl
        have e109b135 := put_s hb135 (by rw [Fb134.size, hs0]; decide)
        have e1b135 := put_o hb135 (by decide) e1b134
        have e3b135 := put_o hb135 (by decide) e3b134
        have e103b135 := put_o hb135 (by decide) e103b134
        have e104b135 := put_o hb135 (by decide) e104b134
        have e105b135 := put_o hb135 (by decide) e105b134
        have e106b135 := put_o hb135 (by decide) e106b134
        have e107b135 := put_o hb135 (by decide) e107b134
        have e108b135 := put_o hb135 (by decide) e108b134
        refine (show wpFrom Tryd.prog O Q' _ (Act.put b134 (some 109) (.bool false)) W1 from ?_)
        rw [← hb135]
        clear hb135 Fb134 e1b134 e3b134 e103b134 e104b134 e105b134 e106b134 e107b134 e108b134
        refine pVal 68 (.bool false) hO rfl (wanted_none rfl) (by simp only [execOp, eval_tmpOf, e109b135]; first | rfl | (go_simp; done) | (go_simp; simp only [tmps_get, e109b135]; go_simp)) ?_
        obtain ⟨b136, hb136⟩ : ∃ x, x = Act.put b135 (some 6) (.bool false) := ⟨_, rfl⟩
        have Fb136 := fr_s hb136 Fb135 rfl
        have e6b136 := put_s hb136 (by rw [Fb135.size, hs0]; decide)
        have e1b136 := put_o hb136 (by decide) e1b135
        have e3b136 := put_o hb136 (by decide) e3b135
        have e103b136 := put_o hb136 (by decide) e103b135
        have e104b136 := put_o hb136 (by decide) e104b135
        have e105b136 := put_o hb136 (by decide) e105b135
        have e106b136 := put_o hb136 (by decide) e106b135
        have e107b136 := put_o hb136 (by decide) e107b135
        have e108b136 := put_o hb136 (by decide) e108b135
        have e109b136 := put_o hb136 (by decide) e109b135
        refine (show wpFrom Tryd.prog O Q' _ (Act.put b135 (some 6) (.bool false)) W1 from ?_)
        rw [← hb136]
        clear hb136 Fb135 e1b135 e3b135 e103b135 e104b135 e105b135 e106b135 e107b135 e108b135 e109b135
        exact H _ Fb136 e6b136
      · skip
        refine pVal 62 (.int .u8 n.kind) hO rfl ((wanted_if (g := 61) (m := 103) (c := true) rfl rfl (by rw [Fb129.size, hs0]; decide) e103b129).trans rfl) (by simp only [execOp, eval_tmpOf, e3b129]; first | rfl | (go_simp; done) | (go_simp; simp only [tmps_get, e3b129]; go_simp)) ?_
        obtain ⟨b137, hb137⟩ : ∃ x, x = Act.put b129 (some 104) (.int .u8 n.kind) := ⟨_, rfl⟩
        have Fb137 := fr_s hb137 Fb129 rfl
        have e104b137 := put_s hb137 (by rw [Fb129.size, hs0]; decide)
        have e1b137 := put_o hb137 (by decide) e1b129
        have e3b137 := put_o hb137 (by decide) e3b129
        have e103b137 := put_o hb137 (by decide) e103b129
        refine (show wpFrom Tryd.prog O Q' _ (Act.put b129 (some 104) (.int .u8 n.kind)) W1 from ?_)
        rw [← hb137]
        clear hb137 Fb129 e1b129 e3b129 e103b129
        refine pVal 63 (.pointer (some ⟨W.heap.size, 11, none⟩)) hO rfl ((wanted_if (g := 61) (m := 103) (c := true) rfl rfl (by rw [Fb137.size, hs0]; decide) e103b137).trans rfl) (by simp only [execOp, eval_tmpOf, e1b137]; first | rfl | (go_simp; done) | (go_simp; simp only [tmps_get, e1b137]; go_simp)) ?_
        obtain ⟨b138, hb138⟩ : ∃ x, x = Act.put b137 (some 105) (.pointer (some ⟨W.heap.size, 11, none⟩)) := ⟨_, rfl⟩
        have Fb138 := fr_s hb138 Fb137 rfl
        have e105b138 := put_s hb138 (by rw [Fb137.size, hs0]; decide)
        have e1b138 := put_o hb138 (by decide) e1b137
        have e3b138 := put_o hb138 (by decide) e3b137
        have e103b138 := put_o hb138 (by decide) e103b137
        have e104b138 := put_o hb138 (by decide) e104b137
        refine (show wpFrom Tryd.prog O Q' _ (Act.put b137 (some 105) (.pointer (some ⟨W.heap.size, 11, none⟩))) W1 from ?_)
        rw [← hb138]
        clear hb138 Fb137 e1b137 e3b137 e103b137 e104b137
        refine pVal 64 (.int .i64 n.who) hO rfl ((wanted_if (g := 61) (m := 103) (c := true) rfl rfl (by rw [Fb138.size, hs0]; decide) e103b138).trans rfl) (by simp only [execOp, eval_tmpOf, e105b138]; first | rfl | (go_simp; done) | (go_simp; simp only [tmps_get, e105b138]; go_simp)) ?_
        obtain ⟨b139, hb139⟩ : ∃ x, x = Act.put b138 (some 106) (.int .i64 n.who) := ⟨_, rfl⟩
        have Fb139 := fr_s hb139 Fb138 rfl
        have e106b139 := put_s hb139 (by rw [Fb138.size, hs0]; decide)
        have e1b139 := put_o hb139 (by decide) e1b138
        have e3b139 := put_o hb139 (by decide) e3b138
        have e103b139 := put_o hb139 (by decide) e103b138
        have e104b139 := put_o hb139 (by decide) e104b138
        have e105b139 := put_o hb139 (by decide) e105b138
        refine (show wpFrom Tryd.prog O Q' _ (Act.put b138 (some 106) (.int .i64 n.who)) W1 from ?_)
        rw [← hb139]
        clear hb139 Fb138 e1b138 e3b138 e103b138 e104b138 e105b138
        refine pVal 65 (.int .u64 n.who) hO rfl ((wanted_if (g := 61) (m := 103) (c := true) rfl rfl (by rw [Fb139.size, hs0]; decide) e103b139).trans rfl) (by simp only [execOp, eval_tmpOf, e106b139]; first | rfl | (go_simp; done) | (go_simp; simp only [tmps_get, e106b139]; go_simp)) ?_
        obtain ⟨b140, hb140⟩ : ∃ x, x = Act.put b139 (some 107) (.int .u64 n.who) := ⟨_, rfl⟩
        have Fb140 := fr_s hb140 Fb139 rfl
        have e107b140 := put_s hb140 (by rw [Fb139.size, hs0]; decide)
        have e1b140 := put_o hb140 (by decide) e1b139
        have e3b140 := put_o hb140 (by decide) e3b139
        have e103b140 := put_o hb140 (by decide) e103b139
        have e104b140 := put_o hb140 (by decide) e104b139
        have e105b140 := put_o hb140 (by decide) e105b139
        have e106b140 := put_o hb140 (by decide) e106b139
        refine (show wpFrom Tryd.prog O Q' _ (Act.put b139 (some 107) (.int .u64 n.who)) W1 from ?_)
        rw [← hb140]
        clear hb140 Fb139 e1b139 e3b139 e103b139 e104b139 e105b139 e106b139
        refine pCall 66 (.bool t10) (args := #[.int .u8 n.kind, .int .u8 119, .int .u64 n.who, .int .u64 15]) hO rfl ((wanted_if (g := 61) (m := 103) (c := true) rfl rfl (by rw [Fb140.size, hs0]; decide) e103b140).trans rfl) (by simp only [execOp]; go_simp; simp only [tmps_get, e104b140, e107b140, and_self]) NN.out.2.2.2.2.2.2.2.2.2.2.out ?_
        obtain ⟨b141, hb141⟩ : ∃ x, x = Act.put b140 (some 108) (.bool t10) := ⟨_, rfl⟩
        have Fb141 := fr_s hb141 Fb140 rfl
        have e108b141 := put_s hb141 (by rw [Fb140.size, hs0]; decide)
        have e1b141 := put_o hb141 (by decide) e1b140
        have e3b141 := put_o hb141 (by decide) e3b140
        have e103b141 := put_o hb141 (by decide) e103b140
        have e104b141 := put_o hb141 (by decide) e104b140
        have e105b141 := put_o hb141 (by decide) e105b140
        have e106b141 := put_o hb141 (by decide) e106b140
        have e107b141 := put_o hb141 (by decide) e107b140
        refine (show wpFrom Tryd.prog O Q' _ (Act.put b140 (some 108) (.bool t10)) W1 from ?_)
        rw [← hb141]
        clear hb141 Fb140 e1b140 e3b140 e103b140 e104b140 e105b140 e106b140 e107b140
        refine pVal 67 (.bool t10) hO rfl (wanted_none rfl) (by simp only [execOp, eval_tmpOf, eval_const, e103b141, e108b141]; first | rfl | (go_simp; done) | (go_simp; simp only [tmps_get, e103b141, e108b141]; go_simp)) ?_
        obtain ⟨b142, hb142⟩ : ∃ x, x = Act.put b141 (some 109) (.bool t10) := ⟨_, rfl⟩
        have Fb142 := fr_s hb142 Fb141 rfl
        have e109b142 := put_s hb142 (by rw [Fb141.size, hs0]; decide)
        have e1b142 := put_o hb142 (by decide) e1b141
        have e3b142 := put_o hb142 (by decide) e3b141
        have e103b142 := put_o hb142 (by decide) e103b141
        have e104b142 := put_o hb142 (by decide) e104b141
        have e105b142 := put_o hb142 (by decide) e105b141
        have e106b142 := put_o hb142 (by decide) e106b141
        have e107b142 := put_o hb142 (by decide) e107b141
        have e108b142 := put_o hb142 (by decide) e108b141
        refine (show wpFrom Tryd.prog O Q' _ (Act.put b141 (some 109) (.bool t10)) W1 from ?_)
        rw [← hb142]
        clear hb142 Fb141 e1b141 e3b141 e103b141 e104b141 e105b141 e106b141 e107b141 e108b141
        refine pVal 68 (.bool t10) hO rfl (wanted_none rfl) (by simp only [execOp, eval_tmpOf, e109b142]; first | rfl | (go_simp; done) | (go_simp; simp only [tmps_get, e109b142]; go_simp)) ?_
        obtain ⟨b143, hb143⟩ : ∃ x, x = Act.put b142 (some 6) (.bool t10) := ⟨_, rfl⟩
        have Fb143 := fr_s hb143 Fb142 rfl
        have e6b143 := put_s hb143 (by rw [Fb142.size, hs0]; decide)
        have e1b143 := put_o hb143 (by decide) e1b142
        have e3b143 := put_o hb143 (by decide) e3b142
        have e103b143 := put_o hb143 (by decide) e103b142
        have e104b143 := put_o hb143 (by decide) e104b142
        have e105b143 := put_o hb143 (by decide) e105b142
        have e106b143 := put_o hb143 (by decide) e106b142
        have e107b143 := put_o hb143 (by decide) e107b142
        have e108b143 := put_o hb143 (by decide) e108b142
        have e109b143 := put_o hb143 (by decide) e109b142
        refine (show wpFrom Tryd.prog O Q' _ (Act.put b142 (some 6) (.bool t10)) W1 from ?_)
        rw [← hb143]
        clear hb143 Fb142 e1b142 e3b142 e103b142 e104b142 e105b142 e106b142 e107b142 e108b142 e109b142
        exact H _ Fb143 e6b143
    clear Fb129 e1b129 e3b129 e103b129
    intro b144 Fb144 e6b144
    have e1b144 : tmpOf b144 1 = .pointer (some ⟨W.heap.size, 0, none⟩) := (Fb144.agree 1 (by decide)).trans e1a0
    have e3b144 : tmpOf b144 3 = .int .u8 n.kind := (Fb144.agree 3 (by decide)).trans e3a0
    obtain ⟨c10, hc10⟩ : ∃ x, x = (c9 && t10) := ⟨_, rfl⟩
    rw [← hc10] at e6b144
    have Hc10 := Lib.hid hc10
    clear hc10
    refine pEnd 69 hO rfl (hR _ ⟨Fb144.size.trans hs0, Fb144.defers.trans hd0, e1b144, e3b144, e6b144.trans (congrArg Value.bool ?_)⟩)
    unfold numsK
    rw [TT.out.1.out, TT.out.2.1.out, TT.out.2.2.1.out, TT.out.2.2.2.1.out, TT.out.2.2.2.2.1.out, TT.out.2.2.2.2.2.1.out, TT.out.2.2.2.2.2.2.1.out, TT.out.2.2.2.2.2.2.2.1.out, TT.out.2.2.2.2.2.2.2.2.1.out, TT.out.2.2.2.2.2.2.2.2.2.1.out, TT.out.2.2.2.2.2.2.2.2.2.2.out, Hc10.out, Hc9.out, Hc8.out, Hc7.out, Hc6.out, Hc5.out, Hc4.out, Hc3.out, Hc2.out, Hc1.out]
  case after =>
  rintro a5 ⟨hs5, hd5, e1a5, e3a5, e6a5⟩
  obtain ⟨tn, htn⟩ : ∃ t, t = numsK n := ⟨_, rfl⟩
  rw [← htn] at e6a5
  have TN := Lib.hid htn.symm
  have VK := Lib.hid (vecK n.vec _ W1 V1.out.vec)
  obtain ⟨tv, htv⟩ : ∃ t, t = (decide (n.vec.length = 0) || rightB n.vec) := ⟨_, rfl⟩
  rw [← htv] at VK
  have TV := Lib.hid htv.symm
  clear htv htn
  iterate 3 go_step
  refine region_goQ (fun a => a.tmps.size = 219 ∧ a.defers = [] ∧ tmpOf a 1 = .pointer (some ⟨W.heap.size, 0, none⟩) ∧ tmpOf a 3 = .int .u8 n.kind ∧ tmpOf a 6 = .bool tn) (fun a => a.tmps.size = 219 ∧ a.defers = [] ∧ tmpOf a 1 = .pointer (some ⟨W.heap.size, 0, none⟩) ∧ tmpOf a 3 = .int .u8 n.kind ∧ tmpOf a 6 = .bool (lensK n)) ⟨hs5, hd5, e1a5, e3a5, e6a5⟩ ?chain6 ?after6
  case chain6 =>
    clear hs5 hd5 e1a5 e3a5 e6a5
    rintro a0 O Q' ⟨hs0, hd0, e1a0, e3a0, e6a0⟩ hO hR
    have Fa0 : Fr a0 a0 scrR6 := Fr.refl _ _
    have z12 := ZZ.out.1
    have z13 := ZZ.out.2.1
    have z14 := ZZ.out.2.2.1
    have z15 := ZZ.out.2.2.2
    refine pVal 0 (.bool tn) hO rfl (wanted_none rfl) (by simp only [execOp, eval_tmpOf, e6a0]; first | rfl | (go_simp; done) | (go_simp; simp only [tmps_get, e6a0]; go_simp)) ?_
    obtain ⟨b1, hb1⟩ : ∃ x, x = Act.put a0 (some 110) (.bool tn) := ⟨_, rfl⟩
    have Fb1 := fr_s hb1 Fa0 rfl
    have e110b1 := put_s hb1 (by rw [Fa0.size, hs0]; decide)
    have e1b1 := put_o hb1 (by decide) e1a0
    have e3b1 := put_o hb1 (by decide) e3a0
    have e6b1 := put_o hb1 (by decide) e6a0
    refine (show wpFrom Tryd.prog O Q' _ (Act.put a0 (some 110) (.bool tn)) W1 from ?_)
    rw [← hb1]
    clear hb1 Fa0 e6a0
    refine pVal 1 (.bool tn) hO rfl (wanted_none rfl) (by simp only [execOp, eval_tmpOf, e110b1]; first | rfl | (go_simp; done) | (go_simp; simp only [tmps_get, e110b1]; go_simp)) ?_
    obtain ⟨b2, hb2⟩ : ∃ x, x = Act.put b1 (some 111) (.bool tn) := ⟨_, rfl⟩
    have Fb2 := fr_s hb2 Fb1 rfl
    have e111b2 := put_s hb2 (by rw [Fb1.size, hs0]; decide)
    have e1b2 := put_o hb2 (by decide) e1b1
    have e3b2 := put_o hb2 (by decide) e3b1
    have e6b2 := put_o hb2 (by decide) e6b1
    have e110b2 := put_o hb2 (by decide) e110b1
    refine (show wpFrom Tryd.prog O Q' _ (Act.put b1 (some 111) (.bool tn)) W1 from ?_)
    rw [← hb2]
    clear hb2 Fb1 e1b1 e3b1 e6b1 e110b1
    suffices H : ∀ a, Fr a0 a scrR6 → tmpOf a 111 = .bool tn → wpFrom Tryd.prog O Q' 2 a W1 from H _ Fb2 e111b2
    clear Fb2 e1b2 e3b2 e6b2 e110b2 e111b2
    intro b3 Fb3 e111b3
    have e1b3 : tmpOf b3 1 = .pointer (some ⟨W.heap.size, 0, none⟩) := (Fb3.agree 1 (by decide)).trans e1a0
    have e3b3 : tmpOf b3 3 = .int .u8 n.kind := (Fb3.agree 3 (by decide)).trans e3a0
    suffices H : ∀ a, Fr a0 a scrR6 → tmpOf a 119 = .bool (tn && t11) → wpFrom Tryd.prog O Q' 10 a W1 by
      cases tn
      · skip
        refine pSkip 2 hO rfl ((wanted_if (g := 1) (m := 111) (c := false) rfl rfl (by rw [Fb3.size, hs0]; decide) e111b3).trans rfl) ?_
        obtain ⟨b4, hb4⟩ : ∃ x, x = Act.put b3 (some 112) (undef) := ⟨_, rfl⟩
        have Fb4 := fr_s hb4 Fb3 rfl
        have e112b4 := put_s hb4 (by rw [Fb3.size, hs0]; decide)
        have e1b4 := put_o hb4 (by decide) e1b3
        have e3b4 := put_o hb4 (by decide) e3b3
        have e111b4 := put_o hb4 (by decide) e111b3
        refine (show wpFrom Tryd.prog O Q' _ (Act.put b3 (some 112) (undef)) W1 from ?_)
        rw [← hb4]
        clear hb4 Fb3 e1b3 e3b3 e111b3
        refine pSkip 3 hO rfl ((wanted_if (g := 1) (m := 111) (c := false) rfl rfl (by rw [Fb4.size, hs0]; decide) e111b4).trans rfl) ?_
        obtain ⟨b5, hb5⟩ : ∃ x, x = Act.put b4 (some 113) (undef) := ⟨_, rfl⟩
        have Fb5 := fr_s hb5 Fb4 rfl
        have e113b5 := put_s hb5 (by rw [Fb4.size, hs0]; decide)
        have e1b5 := put_o hb5 (by decide) e1b4
        have e3b5 := put_o hb5 (by decide) e3b4
        have e111b5 := put_o hb5 (by decide) e111b4
        have e112b5 := put_o hb5 (by decide) e112b4
        refine (show wpFrom Tryd.prog O Q' _ (Act.put b4 (some 113) (undef)) W1 from ?_)
        rw [← hb5]
        clear hb5 Fb4 e1b4 e3b4 e111b4 e112b4
        refine pSkip 4 hO rfl ((wanted_if (g := 1) (m := 111) (c := false) rfl rfl (by rw [Fb5.size, hs0]; decide) e111b5).trans rfl) ?_
        obtain ⟨b6, hb6⟩ : ∃ x, x = Act.put b5 (some 114) (undef) := ⟨_, rfl⟩
        have Fb6 := fr_s hb6 Fb5 rfl
        have e114b6 := put_s hb6 (by rw [Fb5.size, hs0]; decide)
        have e1b6 := put_o hb6 (by decide) e1b5
        have e3b6 := put_o hb6 (by decide) e3b5
        have e111b6 := put_o hb6 (by decide) e111b5
        have e112b6 := put_o hb6 (by decide) e112b5
        have e113b6 := put_o hb6 (by decide) e113b5
        refine (show wpFrom Tryd.prog O Q' _ (Act.put b5 (some 114) (undef)) W1 from ?_)
        rw [← hb6]
        clear hb6 Fb5 e1b5 e3b5 e111b5 e112b5 e113b5
        refine pSkip 5 hO rfl ((wanted_if (g := 1) (m := 111) (c := false) rfl rfl (by rw [Fb6.size, hs0]; decide) e111b6).trans rfl) ?_
        obtain ⟨b7, hb7⟩ : ∃ x, x = Act.put b6 (some 115) (undef) := ⟨_, rfl⟩
        have Fb7 := fr_s hb7 Fb6 rfl
        have e115b7 := put_s hb7 (by rw [Fb6.size, hs0]; decide)
        have e1b7 := put_o hb7 (by decide) e1b6
        have e3b7 := put_o hb7 (by decide) e3b6
        have e111b7 := put_o hb7 (by decide) e111b6
        have e112b7 := put_o hb7 (by decide) e112b6
        have e113b7 := put_o hb7 (by decide) e113b6
        have e114b7 := put_o hb7 (by decide) e114b6
        refine (show wpFrom Tryd.prog O Q' _ (Act.put b6 (some 115) (undef)) W1 from ?_)
        rw [← hb7]
        clear hb7 Fb6 e1b6 e3b6 e111b6 e112b6 e113b6 e114b6
        refine pSkip 6 hO rfl ((wanted_if (g := 1) (m := 111) (c := false) rfl rfl (by rw [Fb7.size, hs0]; decide) e111b7).trans rfl) ?_
        obtain ⟨b8, hb8⟩ : ∃ x, x = Act.put b7 (some 116) (undef) := ⟨_, rfl⟩
        have Fb8 := fr_s hb8 Fb7 rfl
        have e116b8 := put_s hb8 (by rw [Fb7.size, hs0]; decide)
        have e1b8 := put_o hb8 (by decide) e1b7
        have e3b8 := put_o hb8 (by decide) e3b7
        have e111b8 := put_o hb8 (by decide) e111b7
        have e112b8 := put_o hb8 (by decide) e112b7
        have e113b8 := put_o hb8 (by decide) e113b7
        have e114b8 := put_o hb8 (by decide) e114b7
        have e115b8 := put_o hb8 (by decide) e115b7
        refine (show wpFrom Tryd.prog O Q' _ (Act.put b7 (some 116) (undef)) W1 from ?_)
        rw [← hb8]
        clear hb8 Fb7 e1b7 e3b7 e111b7 e112b7 e113b7 e114b7 e115b7
        refine pSkip 7 hO rfl ((wanted_if (g := 1) (m := 111) (c := false) rfl rfl (by rw [Fb8.size, hs0]; decide) e111b8).trans rfl) ?_
        obtain ⟨b9, hb9⟩ : ∃ x, x = Act.put b8 (some 117) (undef) := ⟨_, rfl⟩
        have Fb9 := fr_s hb9 Fb8 rfl
        have e117b9 := put_s hb9 (by rw [Fb8.size, hs0]; decide)
        have e1b9 := put_o hb9 (by decide) e1b8
        have e3b9 := put_o hb9 (by decide) e3b8
        have e111b9 := put_o hb9 (by decide) e111b8
        have e112b9 := put_o hb9 (by decide) e112b8
        have e113b9 := put_o hb9 (by decide) e113b8
        have e114b9 := put_o hb9 (by decide) e114b8
        have e115b9 := put_o hb9 (by decide) e115b8
        have e116b9 := put_o hb9 (by decide) e116b8
        refine (show wpFrom Tryd.prog O Q' _ (Act.put b8 (some 117) (undef)) W1 from ?_)
        rw [← hb9]
        clear hb9 Fb8 e1b8 e3b8 e111b8 e112b8 e113b8 e114b8 e115b8 e116b8
        refine pVal 8 (.bool false) hO rfl (wanted_none rfl) (by simp only [execOp, eval_tmpOf, eval_const, e111b9, e117b9]; first | rfl | (go_simp; done) | (go_simp; simp only [tmps_get, e111b9, e117b9]; go_simp)) ?_
        obtain ⟨b10, hb10⟩ : ∃ x, x = Act.put b9 (some 118) (.bool false) := ⟨_, rfl⟩
        have Fb10 := fr_s hb10 Fb9 rfl
        have e118b10 := put_s hb10 (by rw [Fb9.size, hs0]; decide)
        have e1b10 := put_o hb10 (by decide) e1b9
        have e3b10 := put_o hb10 (by decide) e3b9
        have e111b10 := put_o hb10 (by decide) e111b9
        have e112b10 := put_o hb10 (by decide) e112b9
        have e113b10 := put_o hb10 (by decide) e113b9
        have e114b10 := put_o hb10 (by decide) e114b9
        have e115b10 := put_o hb10 (by decide) e115b9
        have e116b10 := put_o hb10 (by decide) e116b9
        have e117b10 := put_o hb10 (by decide) e117b9
        refine (show wpFrom Tryd.prog O Q' _ (Act.put b9 (some 118) (.bool false)) W1 from ?_)
        rw [← hb10]
        clear hb10 Fb9 e1b9 e3b9 e111b9 e112b9 e113b9 e114b9 e115b9 e116b9 e117b9
        refine pVal 9 (.bool false) hO rfl (wanted_none rfl) (by simp only [execOp, eval_tmpOf, e118b10]; first | rfl | (go_simp; done) | (go_simp; simp only [tmps_get, e118b10]; go_simp)) ?_
        obtain ⟨b11, hb11⟩ : ∃ x, x = Act.put b10 (some 119) (.bool false) := ⟨_, rfl⟩
        have Fb11 := fr_s hb11 Fb10 rfl
        have e119b11 := put_s hb11 (by rw [Fb10.size, hs0]; decide)
        have e1b11 := put_o hb11 (by decide) e1b10
        have e3b11 := put_o hb11 (by decide) e3b10
        have e111b11 := put_o hb11 (by decide) e111b10
        have e112b11 := put_o hb11 (by decide) e112b10
        have e113b11 := put_o hb11 (by decide) e113b10
        have e114b11 := put_o hb11 (by decide) e114b10
        have e115b11 := put_o hb11 (by decide) e115b10
        have e116b11 := put_o hb11 (by decide) e116b10
        have e117b11 := put_o hb11 (by decide) e117b10
        have e118b11 := put_o hb11 (by decide) e118b10
        refine (show wpFrom Tryd.prog O Q' _ (Act.put b10 (some 119) (.bool false)) W1 from ?_)
        rw [← hb11]
        clear hb11 Fb10 e1b10 e3b10 e111b10 e112b10 e113b10 e114b10 e115b10 e116b10 e117b10 e118b10
        exact H _ Fb11 e119b11
      · skip
        refine pVal 2 (.int .u8 n.kind) hO rfl ((wanted_if (g := 1) (m := 111) (c := true) rfl rfl (by rw [Fb3.size, hs0]; decide) e111b3).trans rfl) (by simp only [execOp, eval_tmpOf, e3b3]; first | rfl | (go_simp; done) | (go_simp; simp only [tmps_get, e3b3]; go_simp)) ?_
        obtain ⟨b12, hb12⟩ : ∃ x, x = Act.put b3 (some 112) (.int .u8 n.kind) := ⟨_, rfl⟩
        have Fb12 := fr_s hb12 Fb3 rfl
        have e112b12 := put_s hb12 (by rw [Fb3.size, hs0]; decide)
        have e1b12 := put_o hb12 (by decide) e1b3
        have e3b12 := put_o hb12 (by decide) e3b3
        have e111b12 := put_o hb12 (by decide) e111b3
        refine (show wpFrom Tryd.prog O Q' _ (Act.put b3 (some 112) (.int .u8 n.kind)) W1 from ?_)
        rw [← hb12]
        clear hb12 Fb3 e1b3 e3b3 e111b3
        refine pVal 3 (.pointer (some ⟨W.heap.size, 12, none⟩)) hO rfl ((wanted_if (g := 1) (m := 111) (c := true) rfl rfl (by rw [Fb12.size, hs0]; decide) e111b12).trans rfl) (by simp only [execOp, eval_tmpOf, e1b12]; first | rfl | (go_simp; done) | (go_simp; simp only [tmps_get, e1b12]; go_simp)) ?_
        obtain ⟨b13, hb13⟩ : ∃ x, x = Act.put b12 (some 113) (.pointer (some ⟨W.heap.size, 12, none⟩)) := ⟨_, rfl⟩
        have Fb13 := fr_s hb13 Fb12 rfl
        have e113b13 := put_s hb13 (by rw [Fb12.size, hs0]; decide)
        have e1b13 := put_o hb13 (by decide) e1b12
        have e3b13 := put_o hb13 (by decide) e3b12
        have e111b13 := put_o hb13 (by decide) e111b12
        have e112b13 := put_o hb13 (by decide) e112b12
        refine (show wpFrom Tryd.prog O Q' _ (Act.put b12 (some 113) (.pointer (some ⟨W.heap.size, 12, none⟩))) W1 from ?_)
        rw [← hb13]
        clear hb13 Fb12 e1b12 e3b12 e111b12 e112b12
        refine pVal 4 (.slice p0 n.parts.length q0) hO rfl ((wanted_if (g := 1) (m := 111) (c := true) rfl rfl (by rw [Fb13.size, hs0]; decide) e111b13).trans rfl) (by simp only [execOp, eval_tmpOf, e113b13]; first | rfl | (go_simp; done) | (go_simp; simp only [tmps_get, e113b13]; go_simp)) ?_
        obtain ⟨b14, hb14⟩ : ∃ x, x = Act.put b13 (some 114) (.slice p0 n.parts.length q0) := ⟨_, rfl⟩
        have Fb14 := fr_s hb14 Fb13 rfl
        have e114b14 := put_s hb14 (by rw [Fb13.size, hs0]; decide)
        have e1b14 := put_o hb14 (by decide) e1b13
        have e3b14 := put_o hb14 (by decide) e3b13
        have e111b14 := put_o hb14 (by decide) e111b13
        have e112b14 := put_o hb14 (by decide) e112b13
        have e113b14 := put_o hb14 (by decide) e113b13
        refine (show wpFrom Tryd.prog O Q' _ (Act.put b13 (some 114) (.slice p0 n.parts.length q0)) W1 from ?_)
        rw [← hb14]
        clear hb14 Fb13 e1b13 e3b13 e111b13 e112b13 e113b13
        refine pVal 5 (.int .i64 (n.parts.length : Int)) hO rfl ((wanted_if (g := 1) (m := 111) (c := true) rfl rfl (by rw [Fb14.size, hs0]; decide) e111b14).trans rfl) (by simp only [execOp]; first | rfl | (go_simp; done) | (go_simp; simp only [tmps_get, e114b14]; go_simp)) ?_
        obtain ⟨b15, hb15⟩ : ∃ x, x = Act.put b14 (some 115) (.int .i64 (n.parts.length : Int)) := ⟨_, rfl⟩
        have Fb15 := fr_s hb15 Fb14 rfl
        have e115b15 := put_s hb15 (by rw [Fb14.size, hs0]; decide)
        have e1b15 := put_o hb15 (by decide) e1b14
        have e3b15 := put_o hb15 (by decide) e3b14
        have e111b15 := put_o hb15 (by decide) e111b14
        have e112b15 := put_o hb15 (by decide) e112b14
        have e113b15 := put_o hb15 (by decide) e113b14
        have e114b15 := put_o hb15 (by decide) e114b14
        refine (show wpFrom Tryd.prog O Q' _ (Act.put b14 (some 115) (.int .i64 (n.parts.length : Int))) W1 from ?_)
        rw [← hb15]
        clear hb15 Fb14 e1b14 e3b14 e111b14 e112b14 e113b14 e114b14
        refine pVal 6 (.int .u64 (n.parts.length : Int)) hO rfl ((wanted_if (g := 1) (m := 111) (c := true) rfl rfl (by rw [Fb15.size, hs0]; decide) e111b15).trans rfl) (by simp only [execOp, eval_tmpOf, e115b15]; first | rfl | (go_simp; done) | (go_simp; simp only [tmps_get, e115b15]; go_simp)) ?_
        obtain ⟨b16, hb16⟩ : ∃ x, x = Act.put b15 (some 116) (.int .u64 (n.parts.length : Int)) := ⟨_, rfl⟩
        have Fb16 := fr_s hb16 Fb15 rfl
        have e116b16 := put_s hb16 (by rw [Fb15.size, hs0]; decide)
        have e1b16 := put_o hb16 (by decide) e1b15
        have e3b16 := put_o hb16 (by decide) e3b15
        have e111b16 := put_o hb16 (by decide) e111b15
        have e112b16 := put_o hb16 (by decide) e112b15
        have e113b16 := put_o hb16 (by decide) e113b15
        have e114b16 := put_o hb16 (by decide) e114b15
        have e115b16 := put_o hb16 (by decide) e115b15
        refine (show wpFrom Tryd.prog O Q' _ (Act.put b15 (some 116) (.int .u64 (n.parts.length : Int))) W1 from ?_)
        rw [← hb16]
        clear hb16 Fb15 e1b15 e3b15 e111b15 e112b15 e113b15 e114b15 e115b15
        refine pCall 7 (.bool t11) (args := #[.int .u8 n.kind, .int .u8 112, .int .u64 (n.parts.length : Int), .int .u64 4]) hO rfl ((wanted_if (g := 1) (m := 111) (c := true) rfl rfl (by rw [Fb16.size, hs0]; decide) e111b16).trans rfl) (by simp only [execOp]; go_simp; simp only [tmps_get, e112b16, e116b16, and_self]) NM.out.1.out ?_
        obtain ⟨b17, hb17⟩ : ∃ x, x = Act.put b16 (some 117) (.bool t11) := ⟨_, rfl⟩
        have Fb17 := fr_s hb17 Fb16 rfl
        have e117b17 := put_s hb17 (by rw [Fb16.size, hs0]; decide)
        have e1b17 := put_o hb17 (by decide) e1b16
        have e3b17 := put_o hb17 (by decide) e3b16
        have e111b17 := put_o hb17 (by decide) e111b16
        have e112b17 := put_o hb17 (by decide) e112b16
        have e113b17 := put_o hb17 (by decide) e113b16
        have e114b17 := put_o hb17 (by decide) e114b16
        have e115b17 := put_o hb17 (by decide) e115b16
        have e116b17 := put_o hb17 (by decide) e116b16
        refine (show wpFrom Tryd.prog O Q' _ (Act.put b16 (some 117) (.bool t11)) W1 from ?_)
        rw [← hb17]
        clear hb17 Fb16 e1b16 e3b16 e111b16 e112b16 e113b16 e114b16 e115b16 e116b16
        refine pVal 8 (.bool t11) hO rfl (wanted_none rfl) (by simp only [execOp, eval_tmpOf, eval_const, e111b17, e117b17]; first | rfl | (go_simp; done) | (go_simp; simp only [tmps_get, e111b17, e117b17]; go_simp)) ?_
        obtain ⟨b18, hb18⟩ : ∃ x, x = Act.put b17 (some 118) (.bool t11) := ⟨_, rfl⟩
        have Fb18 := fr_s hb18 Fb17 rfl
        have e118b18 := put_s hb18 (by rw [Fb17.size, hs0]; decide)
        have e1b18 := put_o hb18 (by decide) e1b17
        have e3b18 := put_o hb18 (by decide) e3b17
        have e111b18 := put_o hb18 (by decide) e111b17
        have e112b18 := put_o hb18 (by decide) e112b17
        have e113b18 := put_o hb18 (by decide) e113b17
        have e114b18 := put_o hb18 (by decide) e114b17
        have e115b18 := put_o hb18 (by decide) e115b17
        have e116b18 := put_o hb18 (by decide) e116b17
        have e117b18 := put_o hb18 (by decide) e117b17
        refine (show wpFrom Tryd.prog O Q' _ (Act.put b17 (some 118) (.bool t11)) W1 from ?_)
        rw [← hb18]
        clear hb18 Fb17 e1b17 e3b17 e111b17 e112b17 e113b17 e114b17 e115b17 e116b17 e117b17
        refine pVal 9 (.bool t11) hO rfl (wanted_none rfl) (by simp only [execOp, eval_tmpOf, e118b18]; first | rfl | (go_simp; done) | (go_simp; simp only [tmps_get, e118b18]; go_simp)) ?_
        obtain ⟨b19, hb19⟩ : ∃ x, x = Act.put b18 (some 119) (.bool t11) := ⟨_, rfl⟩
        have Fb19 := fr_s hb19 Fb18 rfl
        have e119b19 := put_s hb19 (by rw [Fb18.size, hs0]; decide)
        have e1b19 := put_o hb19 (by decide) e1b18
        have e3b19 := put_o hb19 (by decide) e3b18
        have e111b19 := put_o hb19 (by decide) e111b18
        have e112b19 := put_o hb19 (by decide) e112b18
        have e113b19 := put_o hb19 (by decide) e113b18
        have e114b19 := put_o hb19 (by decide) e114b18
        have e115b19 := put_o hb19 (by decide) e115b18
        have e116b19 := put_o hb19 (by decide) e116b18
        have e117b19 := put_o hb19 (by decide) e117b18
        have e118b19 := put_o hb19 (by decide) e118b18
        refine (show wpFrom Tryd.prog O Q' _ (Act.put b18 (some 119) (.bool t11)) W1 from ?_)
        rw [← hb19]
        clear hb19 Fb18 e1b18 e3b18 e111b18 e112b18 e113b18 e114b18 e115b18 e116b18 e117b18 e118b18
        exact H _ Fb19 e119b19
    clear Fb3 e1b3 e3b3 e111b3
    intro b20 Fb20 e119b20
    have e1b20 : tmpOf b20 1 = .pointer (some ⟨W.heap.size, 0, none⟩) := (Fb20.agree 1 (by decide)).trans e1a0
    have e3b20 : tmpOf b20 3 = .int .u8 n.kind := (Fb20.agree 3 (by decide)).trans e3a0
    obtain ⟨k0, hk0⟩ : ∃ x, x = (tn && t11) := ⟨_, rfl⟩
    rw [← hk0] at e119b20
    have Hk0 := Lib.hid hk0
    clear hk0
    suffices H : ∀ a, Fr a0 a scrR6 → tmpOf a 127 = .bool (k0 && t12) → wpFrom Tryd.prog O Q' 18 a W1 by
      cases k0
      · skip
        refine pSkip 10 hO rfl ((wanted_if (g := 9) (m := 119) (c := false) rfl rfl (by rw [Fb20.size, hs0]; decide) e119b20).trans rfl) ?_
        obtain ⟨b21, hb21⟩ : ∃ x, x = Act.put b20 (some 120) (undef) := ⟨_, rfl⟩
        have Fb21 := fr_s hb21 Fb20 rfl
        have e120b21 := put_s hb21 (by rw [Fb20.size, hs0]; decide)
        have e1b21 := put_o hb21 (by decide) e1b20
        have e3b21 := put_o hb21 (by decide) e3b20
        have e119b21 := put_o hb21 (by decide) e119b20
        refine (show wpFrom Tryd.prog O Q' _ (Act.put b20 (some 120) (undef)) W1 from ?_)
        rw [← hb21]
        clear hb21 Fb20 e1b20 e3b20 e119b20
        refine pSkip 11 hO rfl ((wanted_if (g := 9) (m := 119) (c := false) rfl rfl (by rw [Fb21.size, hs0]; decide) e119b21).trans rfl) ?_
        obtain ⟨b22, hb22⟩ : ∃ x, x = Act.put b21 (some 121) (undef) := ⟨_, rfl⟩
        have Fb22 := fr_s hb22 Fb21 rfl
        have e121b22 := put_s hb22 (by rw [Fb21.size, hs0]; decide)
        have e1b22 := put_o hb22 (by decide) e1b21
        have e3b22 := put_o hb22 (by decide) e3b21
        have e119b22 := put_o hb22 (by decide) e119b21
        have e120b22 := put_o hb22 (by decide) e120b21
        refine (show wpFrom Tryd.prog O Q' _ (Act.put b21 (some 121) (undef)) W1 from ?_)
        rw [← hb22]
        clear hb22 Fb21 e1b21 e3b21 e119b21 e120b21
        refine pSkip 12 hO rfl ((wanted_if (g := 9) (m := 119) (c := false) rfl rfl (by rw [Fb22.size, hs0]; decide) e119b22).trans rfl) ?_
        obtain ⟨b23, hb23⟩ : ∃ x, x = Act.put b22 (some 122) (undef) := ⟨_, rfl⟩
        have Fb23 := fr_s hb23 Fb22 rfl
        have e122b23 := put_s hb23 (by rw [Fb22.size, hs0]; decide)
        have e1b23 := put_o hb23 (by decide) e1b22
        have e3b23 := put_o hb23 (by decide) e3b22
        have e119b23 := put_o hb23 (by decide) e119b22
        have e120b23 := put_o hb23 (by decide) e120b22
        have e121b23 := put_o hb23 (by decide) e121b22
        refine (show wpFrom Tryd.prog O Q' _ (Act.put b22 (some 122) (undef)) W1 from ?_)
        rw [← hb23]
        clear hb23 Fb22 e1b22 e3b22 e119b22 e120b22 e121b22
        refine pSkip 13 hO rfl ((wanted_if (g := 9) (m := 119) (c := false) rfl rfl (by rw [Fb23.size, hs0]; decide) e119b23).trans rfl) ?_
        obtain ⟨b24, hb24⟩ : ∃ x, x = Act.put b23 (some 123) (undef) := ⟨_, rfl⟩
        have Fb24 := fr_s hb24 Fb23 rfl
        have e123b24 := put_s hb24 (by rw [Fb23.size, hs0]; decide)
        have e1b24 := put_o hb24 (by decide) e1b23
        have e3b24 := put_o hb24 (by decide) e3b23
        have e119b24 := put_o hb24 (by decide) e119b23
        have e120b24 := put_o hb24 (by decide) e120b23
        have e121b24 := put_o hb24 (by decide) e121b23
        have e122b24 := put_o hb24 (by decide) e122b23
        refine (show wpFrom Tryd.prog O Q' _ (Act.put b23 (some 123) (undef)) W1 from ?_)
        rw [← hb24]
        clear hb24 Fb23 e1b23 e3b23 e119b23 e120b23 e121b23 e122b23
        refine pSkip 14 hO rfl ((wanted_if (g := 9) (m := 119) (c := false) rfl rfl (by rw [Fb24.size, hs0]; decide) e119b24).trans rfl) ?_
        obtain ⟨b25, hb25⟩ : ∃ x, x = Act.put b24 (some 124) (undef) := ⟨_, rfl⟩
        have Fb25 := fr_s hb25 Fb24 rfl
        have e124b25 := put_s hb25 (by rw [Fb24.size, hs0]; decide)
        have e1b25 := put_o hb25 (by decide) e1b24
        have e3b25 := put_o hb25 (by decide) e3b24
        have e119b25 := put_o hb25 (by decide) e119b24
        have e120b25 := put_o hb25 (by decide) e120b24
        have e121b25 := put_o hb25 (by decide) e121b24
        have e122b25 := put_o hb25 (by decide) e122b24
        have e123b25 := put_o hb25 (by decide) e123b24
        refine (show wpFrom Tryd.prog O Q' _ (Act.put b24 (some 124) (undef)) W1 from ?_)
        rw [← hb25]
        clear hb25 Fb24 e1b24 e3b24 e119b24 e120b24 e121b24 e122b24 e123b24
        refine pSkip 15 hO rfl ((wanted_if (g := 9) (m := 119) (c := false) rfl rfl (by rw [Fb25.size, hs0]; decide) e119b25).trans rfl) ?_
        obtain ⟨b26, hb26⟩ : ∃ x, x = Act.put b25 (some 125) (undef) := ⟨_, rfl⟩
        have Fb26 := fr_s hb26 Fb25 rfl
        have e125b26 := put_s hb26 (by rw [Fb25.size, hs0]; decide)
        have e1b26 := put_o hb26 (by decide) e1b25
        have e3b26 := put_o hb26 (by decide) e3b25
        have e119b26 := put_o hb26 (by decide) e119b25
        have e120b26 := put_o hb26 (by decide) e120b25
        have e121b26 := put_o hb26 (by decide) e121b25
        have e122b26 := put_o hb26 (by decide) e122b25
        have e123b26 := put_o hb26 (by decide) e123b25
        have e124b26 := put_o hb26 (by decide) e124b25
        refine (show wpFrom Tryd.prog O Q' _ (Act.put b25 (some 125) (undef)) W1 from ?_)
        rw [← hb26]
        clear hb26 Fb25 e1b25 e3b25 e119b25 e120b25 e121b25 e122b25 e123b25 e124b25
        refine pVal 16 (.bool false) hO rfl (wanted_none rfl) (by simp only [execOp, eval_tmpOf, eval_const, e119b26, e125b26]; first | rfl | (go_simp; done) | (go_simp; simp only [tmps_get, e119b26, e125b26]; go_simp)) ?_
        obtain ⟨b27, hb27⟩ : ∃ x, x = Act.put b26 (some 126) (.bool false) := ⟨_, rfl⟩
        have Fb27 := fr_s hb27 Fb26 rfl
        have e126b27 := put_s hb27 (by rw [Fb26.size, hs0]; decide)
        have e1b27 := put_o hb27 (by decide) e1b26
        have e3b27 := put_o hb27 (by decide) e3b26
        have e119b27 := put_o hb27 (by decide) e119b26
        have e120b27 := put_o hb27 (by decide) e120b26
        have e121b27 := put_o hb27 (by decide) e121b26
        have e122b27 := put_o hb27 (by decide) e122b26
        have e123b27 := put_o hb27 (by decide) e123b26
        have e124b27 := put_o hb27 (by decide) e124b26
        have e125b27 := put_o hb27 (by decide) e125b26
        refine (show wpFrom Tryd.prog O Q' _ (Act.put b26 (some 126) (.bool false)) W1 from ?_)
        rw [← hb27]
        clear hb27 Fb26 e1b26 e3b26 e119b26 e120b26 e121b26 e122b26 e123b26 e124b26 e125b26
        refine pVal 17 (.bool false) hO rfl (wanted_none rfl) (by simp only [execOp, eval_tmpOf, e126b27]; first | rfl | (go_simp; done) | (go_simp; simp only [tmps_get, e126b27]; go_simp)) ?_
        obtain ⟨b28, hb28⟩ : ∃ x, x = Act.put b27 (some 127) (.bool false) := ⟨_, rfl⟩
        have Fb28 := fr_s hb28 Fb27 rfl
        have e127b28 := put_s hb28 (by rw [Fb27.size, hs0]; decide)
        have e1b28 := put_o hb28 (by decide) e1b27
        have e3b28 := put_o hb28 (by decide) e3b27
        have e119b28 := put_o hb28 (by decide) e119b27
        have e120b28 := put_o hb28 (by decide) e120b27
        have e121b28 := put_o hb28 (by decide) e121b27
        have e122b28 := put_o hb28 (by decide) e122b27
        have e123b28 := put_o hb28 (by decide) e123b27
        have e124b28 := put_o hb28 (by decide) e124b27
        have e125b28 := put_o hb28 (by decide) e125b27
        have e126b28 := put_o hb28 (by decide) e126b27
        refine (show wpFrom Tryd.prog O Q' _ (Act.put b27 (some 127) (.bool false)) W1 from ?_)
        rw [← hb28]
        clear hb28 Fb27 e1b27 e3b27 e119b27 e120b27 e121b27 e122b27 e123b27 e124b27 e125b27 e126b27
        exact H _ Fb28 e127b28
      · skip
        refine pVal 10 (.int .u8 n.kind) hO rfl ((wanted_if (g := 9) (m := 119) (c := true) rfl rfl (by rw [Fb20.size, hs0]; decide) e119b20).trans rfl) (by simp only [execOp, eval_tmpOf, e3b20]; first | rfl | (go_simp; done) | (go_simp; simp only [tmps_get, e3b20]; go_simp)) ?_
        obtain ⟨b29, hb29⟩ : ∃ x, x = Act.put b20 (some 120) (.int .u8 n.kind) := ⟨_, rfl⟩
        have Fb29 := fr_s hb29 Fb20 rfl
        have e120b29 := put_s hb29 (by rw [Fb20.size, hs0]; decide)
        have e1b29 := put_o hb29 (by decide) e1b20
        have e3b29 := put_o hb29 (by decide) e3b20
        have e119b29 := put_o hb29 (by decide) e119b20
        refine (show wpFrom Tryd.prog O Q' _ (Act.put b20 (some 120) (.int .u8 n.kind)) W1 from ?_)
        rw [← hb29]
        clear hb29 Fb20 e1b20 e3b20 e119b20
        refine pVal 11 (.pointer (some ⟨W.heap.size, 13, none⟩)) hO rfl ((wanted_if (g := 9) (m := 119) (c := true) rfl rfl (by rw [Fb29.size, hs0]; decide) e119b29).trans rfl) (by simp only [execOp, eval_tmpOf, e1b29]; first | rfl | (go_simp; done) | (go_simp; simp only [tmps_get, e1b29]; go_simp)) ?_
        obtain ⟨b30, hb30⟩ : ∃ x, x = Act.put b29 (some 121) (.pointer (some ⟨W.heap.size, 13, none⟩)) := ⟨_, rfl⟩
        have Fb30 := fr_s hb30 Fb29 rfl
        have e121b30 := put_s hb30 (by rw [Fb29.size, hs0]; decide)
        have e1b30 := put_o hb30 (by decide) e1b29
        have e3b30 := put_o hb30 (by decide) e3b29
        have e119b30 := put_o hb30 (by decide) e119b29
        have e120b30 := put_o hb30 (by decide) e120b29
        refine (show wpFrom Tryd.prog O Q' _ (Act.put b29 (some 121) (.pointer (some ⟨W.heap.size, 13, none⟩))) W1 from ?_)
        rw [← hb30]
        clear hb30 Fb29 e1b29 e3b29 e119b29 e120b29
        refine pVal 12 (.slice p1 n.ops.length q1) hO rfl ((wanted_if (g := 9) (m := 119) (c := true) rfl rfl (by rw [Fb30.size, hs0]; decide) e119b30).trans rfl) (by simp only [execOp, eval_tmpOf, e121b30]; first | rfl | (go_simp; done) | (go_simp; simp only [tmps_get, e121b30]; go_simp)) ?_
        obtain ⟨b31, hb31⟩ : ∃ x, x = Act.put b30 (some 122) (.slice p1 n.ops.length q1) := ⟨_, rfl⟩
        have Fb31 := fr_s hb31 Fb30 rfl
        have e122b31 := put_s hb31 (by rw [Fb30.size, hs0]; decide)
        have e1b31 := put_o hb31 (by decide) e1b30
        have e3b31 := put_o hb31 (by decide) e3b30
        have e119b31 := put_o hb31 (by decide) e119b30
        have e120b31 := put_o hb31 (by decide) e120b30
        have e121b31 := put_o hb31 (by decide) e121b30
        refine (show wpFrom Tryd.prog O Q' _ (Act.put b30 (some 122) (.slice p1 n.ops.length q1)) W1 from ?_)
        rw [← hb31]
        clear hb31 Fb30 e1b30 e3b30 e119b30 e120b30 e121b30
        refine pVal 13 (.int .i64 (n.ops.length : Int)) hO rfl ((wanted_if (g := 9) (m := 119) (c := true) rfl rfl (by rw [Fb31.size, hs0]; decide) e119b31).trans rfl) (by simp only [execOp]; first | rfl | (go_simp; done) | (go_simp; simp only [tmps_get, e122b31]; go_simp)) ?_
        obtain ⟨b32, hb32⟩ : ∃ x, x = Act.put b31 (some 123) (.int .i64 (n.ops.length : Int)) := ⟨_, rfl⟩
        have Fb32 := fr_s hb32 Fb31 rfl
        have e123b32 := put_s hb32 (by rw [Fb31.size, hs0]; decide)
        have e1b32 := put_o hb32 (by decide) e1b31
        have e3b32 := put_o hb32 (by decide) e3b31
        have e119b32 := put_o hb32 (by decide) e119b31
        have e120b32 := put_o hb32 (by decide) e120b31
        have e121b32 := put_o hb32 (by decide) e121b31
        have e122b32 := put_o hb32 (by decide) e122b31
        refine (show wpFrom Tryd.prog O Q' _ (Act.put b31 (some 123) (.int .i64 (n.ops.length : Int))) W1 from ?_)
        rw [← hb32]
        clear hb32 Fb31 e1b31 e3b31 e119b31 e120b31 e121b31 e122b31
        refine pVal 14 (.int .u64 (n.ops.length : Int)) hO rfl ((wanted_if (g := 9) (m := 119) (c := true) rfl rfl (by rw [Fb32.size, hs0]; decide) e119b32).trans rfl) (by simp only [execOp, eval_tmpOf, e123b32]; first | rfl | (go_simp; done) | (go_simp; simp only [tmps_get, e123b32]; go_simp)) ?_
        obtain ⟨b33, hb33⟩ : ∃ x, x = Act.put b32 (some 124) (.int .u64 (n.ops.length : Int)) := ⟨_, rfl⟩
        have Fb33 := fr_s hb33 Fb32 rfl
        have e124b33 := put_s hb33 (by rw [Fb32.size, hs0]; decide)
        have e1b33 := put_o hb33 (by decide) e1b32
        have e3b33 := put_o hb33 (by decide) e3b32
        have e119b33 := put_o hb33 (by decide) e119b32
        have e120b33 := put_o hb33 (by decide) e120b32
        have e121b33 := put_o hb33 (by decide) e121b32
        have e122b33 := put_o hb33 (by decide) e122b32
        have e123b33 := put_o hb33 (by decide) e123b32
        refine (show wpFrom Tryd.prog O Q' _ (Act.put b32 (some 124) (.int .u64 (n.ops.length : Int))) W1 from ?_)
        rw [← hb33]
        clear hb33 Fb32 e1b32 e3b32 e119b32 e120b32 e121b32 e122b32 e123b32
        refine pCall 15 (.bool t12) (args := #[.int .u8 n.kind, .int .u8 111, .int .u64 (n.ops.length : Int), .int .u64 16]) hO rfl ((wanted_if (g := 9) (m := 119) (c := true) rfl rfl (by rw [Fb33.size, hs0]; decide) e119b33).trans rfl) (by simp only [execOp]; go_simp; simp only [tmps_get, e120b33, e124b33, and_self]) NM.out.2.1.out ?_
        obtain ⟨b34, hb34⟩ : ∃ x, x = Act.put b33 (some 125) (.bool t12) := ⟨_, rfl⟩
        have Fb34 := fr_s hb34 Fb33 rfl
        have e125b34 := put_s hb34 (by rw [Fb33.size, hs0]; decide)
        have e1b34 := put_o hb34 (by decide) e1b33
        have e3b34 := put_o hb34 (by decide) e3b33
        have e119b34 := put_o hb34 (by decide) e119b33
        have e120b34 := put_o hb34 (by decide) e120b33
        have e121b34 := put_o hb34 (by decide) e121b33
        have e122b34 := put_o hb34 (by decide) e122b33
        have e123b34 := put_o hb34 (by decide) e123b33
        have e124b34 := put_o hb34 (by decide) e124b33
        refine (show wpFrom Tryd.prog O Q' _ (Act.put b33 (some 125) (.bool t12)) W1 from ?_)
        rw [← hb34]
        clear hb34 Fb33 e1b33 e3b33 e119b33 e120b33 e121b33 e122b33 e123b33 e124b33
        refine pVal 16 (.bool t12) hO rfl (wanted_none rfl) (by simp only [execOp, eval_tmpOf, eval_const, e119b34, e125b34]; first | rfl | (go_simp; done) | (go_simp; simp only [tmps_get, e119b34, e125b34]; go_simp)) ?_
        obtain ⟨b35, hb35⟩ : ∃ x, x = Act.put b34 (some 126) (.bool t12) := ⟨_, rfl⟩
        have Fb35 := fr_s hb35 Fb34 rfl
        have e126b35 := put_s hb35 (by rw [Fb34.size, hs0]; decide)
        have e1b35 := put_o hb35 (by decide) e1b34
        have e3b35 := put_o hb35 (by decide) e3b34
        have e119b35 := put_o hb35 (by decide) e119b34
        have e120b35 := put_o hb35 (by decide) e120b34
        have e121b35 := put_o hb35 (by decide) e121b34
        have e122b35 := put_o hb35 (by decide) e122b34
        have e123b35 := put_o hb35 (by decide) e123b34
        have e124b35 := put_o hb35 (by decide) e124b34
        have e125b35 := put_o hb35 (by decide) e125b34
        refine (show wpFrom Tryd.prog O Q' _ (Act.put b34 (some 126) (.bool t12)) W1 from ?_)
        rw [← hb35]
        clear hb35 Fb34 e1b34 e3b34 e119b34 e120b34 e121b34 e122b34 e123b34 e124b34 e125b34
        refine pVal 17 (.bool t12) hO rfl (wanted_none rfl) (by simp only [execOp, eval_tmpOf, e126b35]; first | rfl | (go_simp; done) | (go_simp; simp only [tmps_get, e126b35]; go_simp)) ?_
        obtain ⟨b36, hb36⟩ : ∃ x, x = Act.put b35 (some 127) (.bool t12) := ⟨_, rfl⟩
        have Fb36 := fr_s hb36 Fb35 rfl
        have e127b36 := put_s hb36 (by rw [Fb35.size, hs0]; decide)
        have e1b36 := put_o hb36 (by decide) e1b35
        have e3b36 := put_o hb36 (by decide) e3b35
        have e119b36 := put_o hb36 (by decide) e119b35
        have e120b36 := put_o hb36 (by decide) e120b35
        have e121b36 := put_o hb36 (by decide) e121b35
        have e122b36 := put_o hb36 (by decide) e122b35
        have e123b36 := put_o hb36 (by decide) e123b35
        have e124b36 := put_o hb36 (by decide) e124b35
        have e125b36 := put_o hb36 (by decide) e125b35
        have e126b36 := put_o hb36 (by decide) e126b35
        refine (show wpFrom Tryd.prog O Q' _ (Act.put b35 (some 127) (.bool t12)) W1 from ?_)
        rw [← hb36]
        clear hb36 Fb35 e1b35 e3b35 e119b35 e120b35 e121b35 e122b35 e123b35 e124b35 e125b35 e126b35
        exact H _ Fb36 e127b36
    clear Fb20 e1b20 e3b20 e119b20
    intro b37 Fb37 e127b37
    have e1b37 : tmpOf b37 1 = .pointer (some ⟨W.heap.size, 0, none⟩) := (Fb37.agree 1 (by decide)).trans e1a0
    have e3b37 : tmpOf b37 3 = .int .u8 n.kind := (Fb37.agree 3 (by decide)).trans e3a0
    obtain ⟨k1, hk1⟩ : ∃ x, x = (k0 && t12) := ⟨_, rfl⟩
    rw [← hk1] at e127b37
    have Hk1 := Lib.hid hk1
    clear hk1
    suffices H : ∀ a, Fr a0 a scrR6 → tmpOf a 135 = .bool (k1 && t13) → wpFrom Tryd.prog O Q' 26 a W1 by
      cases k1
      · skip
        refine pSkip 18 hO rfl ((wanted_if (g := 17) (m := 127) (c := false) rfl rfl (by rw [Fb37.size, hs0]; decide) e127b37).trans rfl) ?_
        obtain ⟨b38, hb38⟩ : ∃ x, x = Act.put b37 (some 128) (undef) := ⟨_, rfl⟩
        have Fb38 := fr_s hb38 Fb37 rfl
        have e128b38 := put_s hb38 (by rw [Fb37.size, hs0]; decide)
        have e1b38 := put_o hb38 (by decide) e1b37
        have e3b38 := put_o hb38 (by decide) e3b37
        have e127b38 := put_o hb38 (by decide) e127b37
        refine (show wpFrom Tryd.prog O Q' _ (Act.put b37 (some 128) (undef)) W1 from ?_)
        rw [← hb38]
        clear hb38 Fb37 e1b37 e3b37 e127b37
        refine pSkip 19 hO rfl ((wanted_if (g := 17) (m := 127) (c := false) rfl rfl (by rw [Fb38.size, hs0]; decide) e127b38).trans rfl) ?_
        obtain ⟨b39, hb39⟩ : ∃ x, x = Act.put b38 (some 129) (undef) := ⟨_, rfl⟩
        have Fb39 := fr_s hb39 Fb38 rfl
        have e129b39 := put_s hb39 (by rw [Fb38.size, hs0]; decide)
        have e1b39 := put_o hb39 (by decide) e1b38
        have e3b39 := put_o hb39 (by decide) e3b38
        have e127b39 := put_o hb39 (by decide) e127b38
        have e128b39 := put_o hb39 (by decide) e128b38
        refine (show wpFrom Tryd.prog O Q' _ (Act.put b38 (some 129) (undef)) W1 from ?_)
        rw [← hb39]
        clear hb39 Fb38 e1b38 e3b38 e127b38 e128b38
        refine pSkip 20 hO rfl ((wanted_if (g := 17) (m := 127) (c := false) rfl rfl (by rw [Fb39.size, hs0]; decide) e127b39).trans rfl) ?_
        obtain ⟨b40, hb40⟩ : ∃ x, x = Act.put b39 (some 130) (undef) := ⟨_, rfl⟩
        have Fb40 := fr_s hb40 Fb39 rfl
        have e130b40 := put_s hb40 (by rw [Fb39.size, hs0]; decide)
        have e1b40 := put_o hb40 (by decide) e1b39
        have e3b40 := put_o hb40 (by decide) e3b39
        have e127b40 := put_o hb40 (by decide) e127b39
        have e128b40 := put_o hb40 (by decide) e128b39
        have e129b40 := put_o hb40 (by decide) e129b39
        refine (show wpFrom Tryd.prog O Q' _ (Act.put b39 (some 130) (undef)) W1 from ?_)
        rw [← hb40]
        clear hb40 Fb39 e1b39 e3b39 e127b39 e128b39 e129b39
        refine pSkip 21 hO rfl ((wanted_if (g := 17) (m := 127) (c := false) rfl rfl (by rw [Fb40.size, hs0]; decide) e127b40).trans rfl) ?_
        obtain ⟨b41, hb41⟩ : ∃ x, x = Act.put b40 (some 131) (undef) := ⟨_, rfl⟩
        have Fb41 := fr_s hb41 Fb40 rfl
        have e131b41 := put_s hb41 (by rw [Fb40.size, hs0]; decide)
        have e1b41 := put_o hb41 (by decide) e1b40
        have e3b41 := put_o hb41 (by decide) e3b40
        have e127b41 := put_o hb41 (by decide) e127b40
        have e128b41 := put_o hb41 (by decide) e128b40
        have e129b41 := put_o hb41 (by decide) e129b40
        have e130b41 := put_o hb41 (by decide) e130b40
        refine (show wpFrom Tryd.prog O Q' _ (Act.put b40 (some 131) (undef)) W1 from ?_)
        rw [← hb41]
        clear hb41 Fb40 e1b40 e3b40 e127b40 e128b40 e129b40 e130b40
        refine pSkip 22 hO rfl ((wanted_if (g := 17) (m := 127) (c := false) rfl rfl (by rw [Fb41.size, hs0]; decide) e127b41).trans rfl) ?_
        obtain ⟨b42, hb42⟩ : ∃ x, x = Act.put b41 (some 132) (undef) := ⟨_, rfl⟩
        have Fb42 := fr_s hb42 Fb41 rfl
        have e132b42 := put_s hb42 (by rw [Fb41.size, hs0]; decide)
        have e1b42 := put_o hb42 (by decide) e1b41
        have e3b42 := put_o hb42 (by decide) e3b41
        have e127b42 := put_o hb42 (by decide) e127b41
        have e128b42 := put_o hb42 (by decide) e128b41
        have e129b42 := put_o hb42 (by decide) e129b41
        have e130b42 := put_o hb42 (by decide) e130b41
        have e131b42 := put_o hb42 (by decide) e131b41
        refine (show wpFrom Tryd.prog O Q' _ (Act.put b41 (some 132) (undef)) W1 from ?_)
        rw [← hb42]
        clear hb42 Fb41 e1b41 e3b41 e127b41 e128b41 e129b41 e130b41 e131b41
        refine pSkip 23 hO rfl ((wanted_if (g := 17) (m := 127) (c := false) rfl rfl (by rw [Fb42.size, hs0]; decide) e127b42).trans rfl) ?_
        obtain ⟨b43, hb43⟩ : ∃ x, x = Act.put b42 (some 133) (undef) := ⟨_, rfl⟩
        have Fb43 := fr_s hb43 Fb42 rfl
        have e133b43 := put_s hb43 (by rw [Fb42.size, hs0]; decide)
        have e1b43 := put_o hb43 (by decide) e1b42
        have e3b43 := put_o hb43 (by decide) e3b42
        have e127b43 := put_o hb43 (by decide) e127b42
        have e128b43 := put_o hb43 (by decide) e128b42
        have e129b43 := put_o hb43 (by decide) e129b42
        have e130b43 := put_o hb43 (by decide) e130b42
        have e131b43 := put_o hb43 (by decide) e131b42
        have e132b43 := put_o hb43 (by decide) e132b42
        refine (show wpFrom Tryd.prog O Q' _ (Act.put b42 (some 133) (undef)) W1 from ?_)
        rw [← hb43]
        clear hb43 Fb42 e1b42 e3b42 e127b42 e128b42 e129b42 e130b42 e131b42 e132b42
        refine pVal 24 (.bool false) hO rfl (wanted_none rfl) (by simp only [execOp, eval_tmpOf, eval_const, e127b43, e133b43]; first | rfl | (go_simp; done) | (go_simp; simp only [tmps_get, e127b43, e133b43]; go_simp)) ?_
        obtain ⟨b44, hb44⟩ : ∃ x, x = Act.put b43 (some 134) (.bool false) := ⟨_, rfl⟩
        have Fb44 := fr_s hb44 Fb43 rfl
        have e134b44 := put_s hb44 (by rw [Fb43.size, hs0]; decide)
        have e1b44 := put_o hb44 (by decide) e1b43
        have e3b44 := put_o hb44 (by decide) e3b43
        have e127b44 := put_o hb44 (by decide) e127b43
        have e128b44 := put_o hb44 (by decide) e128b43
        have e129b44 := put_o hb44 (by decide) e129b43
        have e130b44 := put_o hb44 (by decide) e130b43
        have e131b44 := put_o hb44 (by decide) e131b43
        have e132b44 := put_o hb44 (by decide) e132b43
        have e133b44 := put_o hb44 (by decide) e133b43
        refine (show wpFrom Tryd.prog O Q' _ (Act.put b43 (some 134) (.bool false)) W1 from ?_)
        rw [← hb44]
        clear hb44 Fb43 e1b43 e3b43 e127b43 e128b43 e129b43 e130b43 e131b43 e132b43 e133b43
        refine pVal 25 (.bool false) hO rfl (wanted_none rfl) (by simp only [execOp, eval_tmpOf, e134b44]; first | rfl | (go_simp; done) | (go_simp; simp only [tmps_get, e134b44]; go_simp)) ?_
        obtain ⟨b45, hb45⟩ : ∃ x, x = Act.put b44 (some 135) (.bool false) := ⟨_, rfl⟩
        have Fb45 := fr_s hb45 Fb44 rfl
        have e135b45 := put_s hb45 (by rw [Fb44.size, hs0]; decide)
        have e1b45 := put_o hb45 (by decide) e1b44
        have e3b45 := put_o hb45 (by decide) e3b44
        have e127b45 := put_o hb45 (by decide) e127b44
        have e128b45 := put_o hb45 (by decide) e128b44
        have e129b45 := put_o hb45 (by decide) e129b44
        have e130b45 := put_o hb45 (by decide) e130b44
        have e131b45 := put_o hb45 (by decide) e131b44
        have e132b45 := put_o hb45 (by decide) e132b44
        have e133b45 := put_o hb45 (by decide) e133b44
        have e134b45 := put_o hb45 (by decide) e134b44
        refine (show wpFrom Tryd.prog O Q' _ (Act.put b44 (some 135) (.bool false)) W1 from ?_)
        rw [← hb45]
        clear hb45 Fb44 e1b44 e3b44 e127b44 e128b44 e129b44 e130b44 e131b44 e132b44 e133b44 e134b44
        exact H _ Fb45 e135b45
      · skip
        refine pVal 18 (.int .u8 n.kind) hO rfl ((wanted_if (g := 17) (m := 127) (c := true) rfl rfl (by rw [Fb37.size, hs0]; decide) e127b37).trans rfl) (by simp only [execOp, eval_tmpOf, e3b37]; first | rfl | (go_simp; done) | (go_simp; simp only [tmps_get, e3b37]; go_simp)) ?_
        obtain ⟨b46, hb46⟩ : ∃ x, x = Act.put b37 (some 128) (.int .u8 n.kind) := ⟨_, rfl⟩
        have Fb46 := fr_s hb46 Fb37 rfl
        have e128b46 := put_s hb46 (by rw [Fb37.size, hs0]; decide)
        have e1b46 := put_o hb46 (by decide) e1b37
        have e3b46 := put_o hb46 (by decide) e3b37
        have e127b46 := put_o hb46 (by decide) e127b37
        refine (show wpFrom Tryd.prog O Q' _ (Act.put b37 (some 128) (.int .u8 n.kind)) W1 from ?_)
        rw [← hb46]
        clear hb46 Fb37 e1b37 e3b37 e127b37
        refine pVal 19 (.pointer (some ⟨W.heap.size, 14, none⟩)) hO rfl ((wanted_if (g := 17) (m := 127) (c := true) rfl rfl (by rw [Fb46.size, hs0]; decide) e127b46).trans rfl) (by simp only [execOp, eval_tmpOf, e1b46]; first | rfl | (go_simp; done) | (go_simp; simp only [tmps_get, e1b46]; go_simp)) ?_
        obtain ⟨b47, hb47⟩ : ∃ x, x = Act.put b46 (some 129) (.pointer (some ⟨W.heap.size, 14, none⟩)) := ⟨_, rfl⟩
        have Fb47 := fr_s hb47 Fb46 rfl
        have e129b47 := put_s hb47 (by rw [Fb46.size, hs0]; decide)
        have e1b47 := put_o hb47 (by decide) e1b46
        have e3b47 := put_o hb47 (by decide) e3b46
        have e127b47 := put_o hb47 (by decide) e127b46
        have e128b47 := put_o hb47 (by decide) e128b46
        refine (show wpFrom Tryd.prog O Q' _ (Act.put b46 (some 129) (.pointer (some ⟨W.heap.size, 14, none⟩))) W1 from ?_)
        rw [← hb47]
        clear hb47 Fb46 e1b46 e3b46 e127b46 e128b46
        refine pVal 20 (.slice p2 n.vec.length q2) hO rfl ((wanted_if (g := 17) (m := 127) (c := true) rfl rfl (by rw [Fb47.size, hs0]; decide) e127b47).trans rfl) (by simp only [execOp, eval_tmpOf, e129b47]; first | rfl | (go_simp; done) | (go_simp; simp only [tmps_get, e129b47]; go_simp)) ?_
        obtain ⟨b48, hb48⟩ : ∃ x, x = Act.put b47 (some 130) (.slice p2 n.vec.length q2) := ⟨_, rfl⟩
        have Fb48 := fr_s hb48 Fb47 rfl
        have e130b48 := put_s hb48 (by rw [Fb47.size, hs0]; decide)
        have e1b48 := put_o hb48 (by decide) e1b47
        have e3b48 := put_o hb48 (by decide) e3b47
        have e127b48 := put_o hb48 (by decide) e127b47
        have e128b48 := put_o hb48 (by decide) e128b47
        have e129b48 := put_o hb48 (by decide) e129b47
        refine (show wpFrom Tryd.prog O Q' _ (Act.put b47 (some 130) (.slice p2 n.vec.length q2)) W1 from ?_)
        rw [← hb48]
        clear hb48 Fb47 e1b47 e3b47 e127b47 e128b47 e129b47
        refine pVal 21 (.int .i64 (n.vec.length : Int)) hO rfl ((wanted_if (g := 17) (m := 127) (c := true) rfl rfl (by rw [Fb48.size, hs0]; decide) e127b48).trans rfl) (by simp only [execOp]; first | rfl | (go_simp; done) | (go_simp; simp only [tmps_get, e130b48]; go_simp)) ?_
        obtain ⟨b49, hb49⟩ : ∃ x, x = Act.put b48 (some 131) (.int .i64 (n.vec.length : Int)) := ⟨_, rfl⟩
        have Fb49 := fr_s hb49 Fb48 rfl
        have e131b49 := put_s hb49 (by rw [Fb48.size, hs0]; decide)
        have e1b49 := put_o hb49 (by decide) e1b48
        have e3b49 := put_o hb49 (by decide) e3b48
        have e127b49 := put_o hb49 (by decide) e127b48
        have e128b49 := put_o hb49 (by decide) e128b48
        have e129b49 := put_o hb49 (by decide) e129b48
        have e130b49 := put_o hb49 (by decide) e130b48
        refine (show wpFrom Tryd.prog O Q' _ (Act.put b48 (some 131) (.int .i64 (n.vec.length : Int))) W1 from ?_)
        rw [← hb49]
        clear hb49 Fb48 e1b48 e3b48 e127b48 e128b48 e129b48 e130b48
        refine pVal 22 (.int .u64 (n.vec.length : Int)) hO rfl ((wanted_if (g := 17) (m := 127) (c := true) rfl rfl (by rw [Fb49.size, hs0]; decide) e127b49).trans rfl) (by simp only [execOp, eval_tmpOf, e131b49]; first | rfl | (go_simp; done) | (go_simp; simp only [tmps_get, e131b49]; go_simp)) ?_
        obtain ⟨b50, hb50⟩ : ∃ x, x = Act.put b49 (some 132) (.int .u64 (n.vec.length : Int)) := ⟨_, rfl⟩
        have Fb50 := fr_s hb50 Fb49 rfl
        have e132b50 := put_s hb50 (by rw [Fb49.size, hs0]; decide)
        have e1b50 := put_o hb50 (by decide) e1b49
        have e3b50 := put_o hb50 (by decide) e3b49
        have e127b50 := put_o hb50 (by decide) e127b49
        have e128b50 := put_o hb50 (by decide) e128b49
        have e129b50 := put_o hb50 (by decide) e129b49
        have e130b50 := put_o hb50 (by decide) e130b49
        have e131b50 := put_o hb50 (by decide) e131b49
        refine (show wpFrom Tryd.prog O Q' _ (Act.put b49 (some 132) (.int .u64 (n.vec.length : Int))) W1 from ?_)
        rw [← hb50]
        clear hb50 Fb49 e1b49 e3b49 e127b49 e128b49 e129b49 e130b49 e131b49
        refine pCall 23 (.bool t13) (args := #[.int .u8 n.kind, .int .u8 118, .int .u64 (n.vec.length : Int), .int .u64 8]) hO rfl ((wanted_if (g := 17) (m := 127) (c := true) rfl rfl (by rw [Fb50.size, hs0]; decide) e127b50).trans rfl) (by simp only [execOp]; go_simp; simp only [tmps_get, e128b50, e132b50, and_self]) NM.out.2.2.1.out ?_
        obtain ⟨b51, hb51⟩ : ∃ x, x = Act.put b50 (some 133) (.bool t13) := ⟨_, rfl⟩
        have Fb51 := fr_s hb51 Fb50 rfl
        have e133b51 := put_s hb51 (by rw [Fb50.size, hs0]; decide)
        have e1b51 := put_o hb51 (by decide) e1b50
        have e3b51 := put_o hb51 (by decide) e3b50
        have e127b51 := put_o hb51 (by decide) e127b50
        have e128b51 := put_o hb51 (by decide) e128b50
        have e129b51 := put_o hb51 (by decide) e129b50
        have e130b51 := put_o hb51 (by decide) e130b50
        have e131b51 := put_o hb51 (by decide) e131b50
        have e132b51 := put_o hb51 (by decide) e132b50
        refine (show wpFrom Tryd.prog O Q' _ (Act.put b50 (some 133) (.bool t13)) W1 from ?_)
        rw [← hb51]
        clear hb51 Fb50 e1b50 e3b50 e127b50 e128b50 e129b50 e130b50 e131b50 e132b50
        refine pVal 24 (.bool t13) hO rfl (wanted_none rfl) (by simp only [execOp, eval_tmpOf, eval_const, e127b51, e133b51]; first | rfl | (go_simp; done) | (go_simp; simp only [tmps_get, e127b51, e133b51]; go_simp)) ?_
        obtain ⟨b52, hb52⟩ : ∃ x, x = Act.put b51 (some 134) (.bool t13) := ⟨_, rfl⟩
        have Fb52 := fr_s hb52 Fb51 rfl
        have e134b52 := put_s hb52 (by rw [Fb51.size, hs0]; decide)
        have e1b52 := put_o hb52 (by decide) e1b51
        have e3b52 := put_o hb52 (by decide) e3b51
        have e127b52 := put_o hb52 (by decide) e127b51
        have e128b52 := put_o hb52 (by decide) e128b51
        have e129b52 := put_o hb52 (by decide) e129b51
        have e130b52 := put_o hb52 (by decide) e130b51
        have e131b52 := put_o hb52 (by decide) e131b51
        have e132b52 := put_o hb52 (by decide) e132b51
        have e133b52 := put_o hb52 (by decide) e133b51
        refine (show wpFrom Tryd.prog O Q' _ (Act.put b51 (some 134) (.bool t13)) W1 from ?_)
        rw [← hb52]
        clear hb52 Fb51 e1b51 e3b51 e127b51 e128b51 e129b51 e130b51 e131b51 e132b51 e133b51
        refine pVal 25 (.bool t13) hO rfl (wanted_none rfl) (by simp only [execOp, eval_tmpOf, e134b52]; first | rfl | (go_simp; done) | (go_simp; simp only [tmps_get, e134b52]; go_simp)) ?_
        obtain ⟨b53, hb53⟩ : ∃ x, x = Act.put b52 (some 135) (.bool t13) := ⟨_, rfl⟩
        have Fb53 := fr_s hb53 Fb52 rfl
        have e135b53 := put_s hb53 (by rw [Fb52.size, hs0]; decide)
        have e1b53 := put_o hb53 (by decide) e1b52
        have e3b53 := put_o hb53 (by decide) e3b52
        have e127b53 := put_o hb53 (by decide) e127b52
        have e128b53 := put_o hb53 (by decide) e128b52
        have e129b53 := put_o hb53 (by decide) e129b52
        have e130b53 := put_o hb53 (by decide) e130b52
        have e131b53 := put_o hb53 (by decide) e131b52
        have e132b53 := put_o hb53 (by decide) e132b52
        have e133b53 := put_o hb53 (by decide) e133b52
        have e134b53 := put_o hb53 (by decide) e134b52
        refine (show wpFrom Tryd.prog O Q' _ (Act.put b52 (some 135) (.bool t13)) W1 from ?_)
        rw [← hb53]
        clear hb53 Fb52 e1b52 e3b52 e127b52 e128b52 e129b52 e130b52 e131b52 e132b52 e133b52 e134b52
        exact H _ Fb53 e135b53
    clear Fb37 e1b37 e3b37 e127b37
    intro b54 Fb54 e135b54
    have e1b54 : tmpOf b54 1 = .pointer (some ⟨W.heap.size, 0, none⟩) := (Fb54.agree 1 (by decide)).trans e1a0
    have e3b54 : tmpOf b54 3 = .int .u8 n.kind := (Fb54.agree 3 (by decide)).trans e3a0
    obtain ⟨k2, hk2⟩ : ∃ x, x = (k1 && t13) := ⟨_, rfl⟩
    rw [← hk2] at e135b54
    have Hk2 := Lib.hid hk2
    clear hk2
    suffices H : ∀ a, Fr a0 a scrR6 → tmpOf a 143 = .bool (k2 && t14) → wpFrom Tryd.prog O Q' 34 a W1 by
      cases k2
      · skip
        refine pSkip 26 hO rfl ((wanted_if (g := 25) (m := 135) (c := false) rfl rfl (by rw [Fb54.size, hs0]; decide) e135b54).trans rfl) ?_
        obtain ⟨b55, hb55⟩ : ∃ x, x = Act.put b54 (some 136) (undef) := ⟨_, rfl⟩
        have Fb55 := fr_s hb55 Fb54 rfl
        have e136b55 := put_s hb55 (by rw [Fb54.size, hs0]; decide)
        have e1b55 := put_o hb55 (by decide) e1b54
        have e3b55 := put_o hb55 (by decide) e3b54
        have e135b55 := put_o hb55 (by decide) e135b54
        refine (show wpFrom Tryd.prog O Q' _ (Act.put b54 (some 136) (undef)) W1 from ?_)
        rw [← hb55]
        clear hb55 Fb54 e1b54 e3b54 e135b54
        refine pSkip 27 hO rfl ((wanted_if (g := 25) (m := 135) (c := false) rfl rfl (by rw [Fb55.size, hs0]; decide) e135b55).trans rfl) ?_
        obtain ⟨b56, hb56⟩ : ∃ x, x = Act.put b55 (some 137) (undef) := ⟨_, rfl⟩
        have Fb56 := fr_s hb56 Fb55 rfl
        have e137b56 := put_s hb56 (by rw [Fb55.size, hs0]; decide)
        have e1b56 := put_o hb56 (by decide) e1b55
        have e3b56 := put_o hb56 (by decide) e3b55
        have e135b56 := put_o hb56 (by decide) e135b55
        have e136b56 := put_o hb56 (by decide) e136b55
        refine (show wpFrom Tryd.prog O Q' _ (Act.put b55 (some 137) (undef)) W1 from ?_)
        rw [← hb56]
        clear hb56 Fb55 e1b55 e3b55 e135b55 e136b55
        refine pSkip 28 hO rfl ((wanted_if (g := 25) (m := 135) (c := false) rfl rfl (by rw [Fb56.size, hs0]; decide) e135b56).trans rfl) ?_
        obtain ⟨b57, hb57⟩ : ∃ x, x = Act.put b56 (some 138) (undef) := ⟨_, rfl⟩
        have Fb57 := fr_s hb57 Fb56 rfl
        have e138b57 := put_s hb57 (by rw [Fb56.size, hs0]; decide)
        have e1b57 := put_o hb57 (by decide) e1b56
        have e3b57 := put_o hb57 (by decide) e3b56
        have e135b57 := put_o hb57 (by decide) e135b56
        have e136b57 := put_o hb57 (by decide) e136b56
        have e137b57 := put_o hb57 (by decide) e137b56
        refine (show wpFrom Tryd.prog O Q' _ (Act.put b56 (some 138) (undef)) W1 from ?_)
        rw [← hb57]
        clear hb57 Fb56 e1b56 e3b56 e135b56 e136b56 e137b56
        refine pSkip 29 hO rfl ((wanted_if (g := 25) (m := 135) (c := false) rfl rfl (by rw [Fb57.size, hs0]; decide) e135b57).trans rfl) ?_
        obtain ⟨b58, hb58⟩ : ∃ x, x = Act.put b57 (some 139) (undef) := ⟨_, rfl⟩
        have Fb58 := fr_s hb58 Fb57 rfl
        have e139b58 := put_s hb58 (by rw [Fb57.size, hs0]; decide)
        have e1b58 := put_o hb58 (by decide) e1b57
        have e3b58 := put_o hb58 (by decide) e3b57
        have e135b58 := put_o hb58 (by decide) e135b57
        have e136b58 := put_o hb58 (by decide) e136b57
        have e137b58 := put_o hb58 (by decide) e137b57
        have e138b58 := put_o hb58 (by decide) e138b57
        refine (show wpFrom Tryd.prog O Q' _ (Act.put b57 (some 139) (undef)) W1 from ?_)
        rw [← hb58]
        clear hb58 Fb57 e1b57 e3b57 e135b57 e136b57 e137b57 e138b57
        refine pSkip 30 hO rfl ((wanted_if (g := 25) (m := 135) (c := false) rfl rfl (by rw [Fb58.size, hs0]; decide) e135b58).trans rfl) ?_
        obtain ⟨b59, hb59⟩ : ∃ x, x = Act.put b58 (some 140) (undef) := ⟨_, rfl⟩
        have Fb59 := fr_s hb59 Fb58 rfl
        have e140b59 := put_s hb59 (by rw [Fb58.size, hs0]; decide)
        have e1b59 := put_o hb59 (by decide) e1b58
        have e3b59 := put_o hb59 (by decide) e3b58
        have e135b59 := put_o hb59 (by decide) e135b58
        have e136b59 := put_o hb59 (by decide) e136b58
        have e137b59 := put_o hb59 (by decide) e137b58
        have e138b59 := put_o hb59 (by decide) e138b58
        have e139b59 := put_o hb59 (by decide) e139b58
        refine (show wpFrom Tryd.prog O Q' _ (Act.put b58 (some 140) (undef)) W1 from ?_)
        rw [← hb59]
        clear hb59 Fb58 e1b58 e3b58 e135b58 e136b58 e137b58 e138b58 e139b58
        refine pSkip 31 hO rfl ((wanted_if (g := 25) (m := 135) (c := false) rfl rfl (by rw [Fb59.size, hs0]; decide) e135b59).trans rfl) ?_
        obtain ⟨b60, hb60⟩ : ∃ x, x = Act.put b59 (some 141) (undef) := ⟨_, rfl⟩
        have Fb60 := fr_s hb60 Fb59 rfl
        have e141b60 := put_s hb60 (by rw [Fb59.size, hs0]; decide)
        have e1b60 := put_o hb60 (by decide) e1b59
        have e3b60 := put_o hb60 (by decide) e3b59
        have e135b60 := put_o hb60 (by decide) e135b59
        have e136b60 := put_o hb60 (by decide) e136b59
        have e137b60 := put_o hb60 (by decide) e137b59
        have e138b60 := put_o hb60 (by decide) e138b59
        have e139b60 := put_o hb60 (by decide) e139b59
        have e140b60 := put_o hb60 (by decide) e140b59
        refine (show wpFrom Tryd.prog O Q' _ (Act.put b59 (some 141) (undef)) W1 from ?_)
        rw [← hb60]
        clear hb60 Fb59 e1b59 e3b59 e135b59 e136b59 e137b59 e138b59 e139b59 e140b59
        refine pVal 32 (.bool false) hO rfl (wanted_none rfl) (by simp only [execOp, eval_tmpOf, eval_const, e135b60, e141b60]; first | rfl | (go_simp; done) | (go_simp; simp only [tmps_get, e135b60, e141b60]; go_simp)) ?_
        obtain ⟨b61, hb61⟩ : ∃ x, x = Act.put b60 (some 142) (.bool false) := ⟨_, rfl⟩
        have Fb61 := fr_s hb61 Fb60 rfl
        have e142b61 := put_s hb61 (by rw [Fb60.size, hs0]; decide)
        have e1b61 := put_o hb61 (by decide) e1b60
        have e3b61 := put_o hb61 (by decide) e3b60
        have e135b61 := put_o hb61 (by decide) e135b60
        have e136b61 := put_o hb61 (by decide) e136b60
        have e137b61 := put_o hb61 (by decide) e137b60
        have e138b61 := put_o hb61 (by decide) e138b60
        have e139b61 := put_o hb61 (by decide) e139b60
        have e140b61 := put_o hb61 (by decide) e140b60
        have e141b61 := put_o hb61 (by decide) e141b60
        refine (show wpFrom Tryd.prog O Q' _ (Act.put b60 (some 142) (.bool false)) W1 from ?_)
        rw [← hb61]
        clear hb61 Fb60 e1b60 e3b60 e135b60 e136b60 e137b60 e138b60 e139b60 e140b60 e141b60
        refine pVal 33 (.bool false) hO rfl (wanted_none rfl) (by simp only [execOp, eval_tmpOf, e142b61]; first | rfl | (go_simp; done) | (go_simp; simp only [tmps_get, e142b61]; go_simp)) ?_
        obtain ⟨b62, hb62⟩ : ∃ x, x = Act.put b61 (some 143) (.bool false) := ⟨_, rfl⟩
        have Fb62 := fr_s hb62 Fb61 rfl
        have e143b62 := put_s hb62 (by rw [Fb61.size, hs0]; decide)
        have e1b62 := put_o hb62 (by decide) e1b61
        have e3b62 := put_o hb62 (by decide) e3b61
        have e135b62 := put_o hb62 (by decide) e135b61
        have e136b62 := put_o hb62 (by decide) e136b61
        have e137b62 := put_o hb62 (by decide) e137b61
        have e138b62 := put_o hb62 (by decide) e138b61
        have e139b62 := put_o hb62 (by decide) e139b61
        have e140b62 := put_o hb62 (by decide) e140b61
        have e141b62 := put_o hb62 (by decide) e141b61
        have e142b62 := put_o hb62 (by decide) e142b61
        refine (show wpFrom Tryd.prog O Q' _ (Act.put b61 (some 143) (.bool false)) W1 from ?_)
        rw [← hb62]
        clear hb62 Fb61 e1b61 e3b61 e135b61 e136b61 e137b61 e138b61 e139b61 e140b61 e141b61 e142b61
        exact H _ Fb62 e143b62
      · skip
        refine pVal 26 (.int .u8 n.kind) hO rfl ((wanted_if (g := 25) (m := 135) (c := true) rfl rfl (by rw [Fb54.size, hs0]; decide) e135b54).trans rfl) (by simp only [execOp, eval_tmpOf, e3b54]; first | rfl | (go_simp; done) | (go_simp; simp only [tmps_get, e3b54]; go_simp)) ?_
        obtain ⟨b63, hb63⟩ : ∃ x, x = Act.put b54 (some 136) (.int .u8 n.kind) := ⟨_, rfl⟩
        have Fb63 := fr_s hb63 Fb54 rfl
        have e136b63 := put_s hb63 (by rw [Fb54.size, hs0]; decide)
        have e1b63 := put_o hb63 (by decide) e1b54
        have e3b63 := put_o hb63 (by decide) e3b54
        have e135b63 := put_o hb63 (by decide) e135b54
        refine (show wpFrom Tryd.prog O Q' _ (Act.put b54 (some 136) (.int .u8 n.kind)) W1 from ?_)
        rw [← hb63]
        clear hb63 Fb54 e1b54 e3b54 e135b54
        refine pVal 27 (.pointer (some ⟨W.heap.size, 15, none⟩)) hO rfl ((wanted_if (g := 25) (m := 135) (c := true) rfl rfl (by rw [Fb63.size, hs0]; decide) e135b63).trans rfl) (by simp only [execOp, eval_tmpOf, e1b63]; first | rfl | (go_simp; done) | (go_simp; simp only [tmps_get, e1b63]; go_simp)) ?_
        obtain ⟨b64, hb64⟩ : ∃ x, x = Act.put b63 (some 137) (.pointer (some ⟨W.heap.size, 15, none⟩)) := ⟨_, rfl⟩
        have Fb64 := fr_s hb64 Fb63 rfl
        have e137b64 := put_s hb64 (by rw [Fb63.size, hs0]; decide)
        have e1b64 := put_o hb64 (by decide) e1b63
        have e3b64 := put_o hb64 (by decide) e3b63
        have e135b64 := put_o hb64 (by decide) e135b63
        have e136b64 := put_o hb64 (by decide) e136b63
        refine (show wpFrom Tryd.prog O Q' _ (Act.put b63 (some 137) (.pointer (some ⟨W.heap.size, 15, none⟩))) W1 from ?_)
        rw [← hb64]
        clear hb64 Fb63 e1b63 e3b63 e135b63 e136b63
        refine pVal 28 (.slice p3 n.hits.length q3) hO rfl ((wanted_if (g := 25) (m := 135) (c := true) rfl rfl (by rw [Fb64.size, hs0]; decide) e135b64).trans rfl) (by simp only [execOp, eval_tmpOf, e137b64]; first | rfl | (go_simp; done) | (go_simp; simp only [tmps_get, e137b64]; go_simp)) ?_
        obtain ⟨b65, hb65⟩ : ∃ x, x = Act.put b64 (some 138) (.slice p3 n.hits.length q3) := ⟨_, rfl⟩
        have Fb65 := fr_s hb65 Fb64 rfl
        have e138b65 := put_s hb65 (by rw [Fb64.size, hs0]; decide)
        have e1b65 := put_o hb65 (by decide) e1b64
        have e3b65 := put_o hb65 (by decide) e3b64
        have e135b65 := put_o hb65 (by decide) e135b64
        have e136b65 := put_o hb65 (by decide) e136b64
        have e137b65 := put_o hb65 (by decide) e137b64
        refine (show wpFrom Tryd.prog O Q' _ (Act.put b64 (some 138) (.slice p3 n.hits.length q3)) W1 from ?_)
        rw [← hb65]
        clear hb65 Fb64 e1b64 e3b64 e135b64 e136b64 e137b64
        refine pVal 29 (.int .i64 (n.hits.length : Int)) hO rfl ((wanted_if (g := 25) (m := 135) (c := true) rfl rfl (by rw [Fb65.size, hs0]; decide) e135b65).trans rfl) (by simp only [execOp]; first | rfl | (go_simp; done) | (go_simp; simp only [tmps_get, e138b65]; go_simp)) ?_
        obtain ⟨b66, hb66⟩ : ∃ x, x = Act.put b65 (some 139) (.int .i64 (n.hits.length : Int)) := ⟨_, rfl⟩
        have Fb66 := fr_s hb66 Fb65 rfl
        have e139b66 := put_s hb66 (by rw [Fb65.size, hs0]; decide)
        have e1b66 := put_o hb66 (by decide) e1b65
        have e3b66 := put_o hb66 (by decide) e3b65
        have e135b66 := put_o hb66 (by decide) e135b65
        have e136b66 := put_o hb66 (by decide) e136b65
        have e137b66 := put_o hb66 (by decide) e137b65
        have e138b66 := put_o hb66 (by decide) e138b65
        refine (show wpFrom Tryd.prog O Q' _ (Act.put b65 (some 139) (.int .i64 (n.hits.length : Int))) W1 from ?_)
        rw [← hb66]
        clear hb66 Fb65 e1b65 e3b65 e135b65 e136b65 e137b65 e138b65
        refine pVal 30 (.int .u64 (n.hits.length : Int)) hO rfl ((wanted_if (g := 25) (m := 135) (c := true) rfl rfl (by rw [Fb66.size, hs0]; decide) e135b66).trans rfl) (by simp only [execOp, eval_tmpOf, e139b66]; first | rfl | (go_simp; done) | (go_simp; simp only [tmps_get, e139b66]; go_simp)) ?_
        obtain ⟨b67, hb67⟩ : ∃ x, x = Act.put b66 (some 140) (.int .u64 (n.hits.length : Int)) := ⟨_, rfl⟩
        have Fb67 := fr_s hb67 Fb66 rfl
        have e140b67 := put_s hb67 (by rw [Fb66.size, hs0]; decide)
        have e1b67 := put_o hb67 (by decide) e1b66
        have e3b67 := put_o hb67 (by decide) e3b66
        have e135b67 := put_o hb67 (by decide) e135b66
        have e136b67 := put_o hb67 (by decide) e136b66
        have e137b67 := put_o hb67 (by decide) e137b66
        have e138b67 := put_o hb67 (by decide) e138b66
        have e139b67 := put_o hb67 (by decide) e139b66
        refine (show wpFrom Tryd.prog O Q' _ (Act.put b66 (some 140) (.int .u64 (n.hits.length : Int))) W1 from ?_)
        rw [← hb67]
        clear hb67 Fb66 e1b66 e3b66 e135b66 e136b66 e137b66 e138b66 e139b66
        refine pCall 31 (.bool t14) (args := #[.int .u8 n.kind, .int .u8 104, .int .u64 (n.hits.length : Int), .int .u64 16]) hO rfl ((wanted_if (g := 25) (m := 135) (c := true) rfl rfl (by rw [Fb67.size, hs0]; decide) e135b67).trans rfl) (by simp only [execOp]; go_simp; simp only [tmps_get, e136b67, e140b67, and_self]) NM.out.2.2.2.out ?_
        obtain ⟨b68, hb68⟩ : ∃ x, x = Act.put b67 (some 141) (.bool t14) := ⟨_, rfl⟩
        have Fb68 := fr_s hb68 Fb67 rfl
        have e141b68 := put_s hb68 (by rw [Fb67.size, hs0]; decide)
        have e1b68 := put_o hb68 (by decide) e1b67
        have e3b68 := put_o hb68 (by decide) e3b67
        have e135b68 := put_o hb68 (by decide) e135b67
        have e136b68 := put_o hb68 (by decide) e136b67
        have e137b68 := put_o hb68 (by decide) e137b67
        have e138b68 := put_o hb68 (by decide) e138b67
        have e139b68 := put_o hb68 (by decide) e139b67
        have e140b68 := put_o hb68 (by decide) e140b67
        refine (show wpFrom Tryd.prog O Q' _ (Act.put b67 (some 141) (.bool t14)) W1 from ?_)
        rw [← hb68]
        clear hb68 Fb67 e1b67 e3b67 e135b67 e136b67 e137b67 e138b67 e139b67 e140b67
        refine pVal 32 (.bool t14) hO rfl (wanted_none rfl) (by simp only [execOp, eval_tmpOf, eval_const, e135b68, e141b68]; first | rfl | (go_simp; done) | (go_simp; simp only [tmps_get, e135b68, e141b68]; go_simp)) ?_
        obtain ⟨b69, hb69⟩ : ∃ x, x = Act.put b68 (some 142) (.bool t14) := ⟨_, rfl⟩
        have Fb69 := fr_s hb69 Fb68 rfl
        have e142b69 := put_s hb69 (by rw [Fb68.size, hs0]; decide)
        have e1b69 := put_o hb69 (by decide) e1b68
        have e3b69 := put_o hb69 (by decide) e3b68
        have e135b69 := put_o hb69 (by decide) e135b68
        have e136b69 := put_o hb69 (by decide) e136b68
        have e137b69 := put_o hb69 (by decide) e137b68
        have e138b69 := put_o hb69 (by decide) e138b68
        have e139b69 := put_o hb69 (by decide) e139b68
        have e140b69 := put_o hb69 (by decide) e140b68
        have e141b69 := put_o hb69 (by decide) e141b68
        refine (show wpFrom Tryd.prog O Q' _ (Act.put b68 (some 142) (.bool t14)) W1 from ?_)
        rw [← hb69]
        clear hb69 Fb68 e1b68 e3b68 e135b68 e136b68 e137b68 e138b68 e139b68 e140b68 e141b68
        refine pVal 33 (.bool t14) hO rfl (wanted_none rfl) (by simp only [execOp, eval_tmpOf, e142b69]; first | rfl | (go_simp; done) | (go_simp; simp only [tmps_get, e142b69]; go_simp)) ?_
        obtain ⟨b70, hb70⟩ : ∃ x, x = Act.put b69 (some 143) (.bool t14) := ⟨_, rfl⟩
        have Fb70 := fr_s hb70 Fb69 rfl
        have e143b70 := put_s hb70 (by rw [Fb69.size, hs0]; decide)
        have e1b70 := put_o hb70 (by decide) e1b69
        have e3b70 := put_o hb70 (by decide) e3b69
        have e135b70 := put_o hb70 (by decide) e135b69
        have e136b70 := put_o hb70 (by decide) e136b69
        have e137b70 := put_o hb70 (by decide) e137b69
        have e138b70 := put_o hb70 (by decide) e138b69
        have e139b70 := put_o hb70 (by decide) e139b69
        have e140b70 := put_o hb70 (by decide) e140b69
        have e141b70 := put_o hb70 (by decide) e141b69
        have e142b70 := put_o hb70 (by decide) e142b69
        refine (show wpFrom Tryd.prog O Q' _ (Act.put b69 (some 143) (.bool t14)) W1 from ?_)
        rw [← hb70]
        clear hb70 Fb69 e1b69 e3b69 e135b69 e136b69 e137b69 e138b69 e139b69 e140b69 e141b69 e142b69
        exact H _ Fb70 e143b70
    clear Fb54 e1b54 e3b54 e135b54
    intro b71 Fb71 e143b71
    have e1b71 : tmpOf b71 1 = .pointer (some ⟨W.heap.size, 0, none⟩) := (Fb71.agree 1 (by decide)).trans e1a0
    have e3b71 : tmpOf b71 3 = .int .u8 n.kind := (Fb71.agree 3 (by decide)).trans e3a0
    obtain ⟨k3, hk3⟩ : ∃ x, x = (k2 && t14) := ⟨_, rfl⟩
    rw [← hk3] at e143b71
    have Hk3 := Lib.hid hk3
    clear hk3
    suffices H : ∀ a, Fr a0 a scrR6 → tmpOf a 6 = .bool (k3 && tv) → wpFrom Tryd.prog O Q' 39 a W1 by
      cases k3
      · skip
        refine pSkip 34 hO rfl ((wanted_if (g := 33) (m := 143) (c := false) rfl rfl (by rw [Fb71.size, hs0]; decide) e143b71).trans rfl) ?_
        obtain ⟨b72, hb72⟩ : ∃ x, x = Act.put b71 (some 144) (undef) := ⟨_, rfl⟩
        have Fb72 := fr_s hb72 Fb71 rfl
        have e144b72 := put_s hb72 (by rw [Fb71.size, hs0]; decide)
        have e1b72 := put_o hb72 (by decide) e1b71
        have e3b72 := put_o hb72 (by decide) e3b71
        have e143b72 := put_o hb72 (by decide) e143b71
        refine (show wpFrom Tryd.prog O Q' _ (Act.put b71 (some 144) (undef)) W1 from ?_)
        rw [← hb72]
        clear hb72 Fb71 e1b71 e3b71 e143b71
        refine pSkip 35 hO rfl ((wanted_if (g := 33) (m := 143) (c := false) rfl rfl (by rw [Fb72.size, hs0]; decide) e143b72).trans rfl) ?_
        obtain ⟨b73, hb73⟩ : ∃ x, x = Act.put b72 (some 145) (undef) := ⟨_, rfl⟩
        have Fb73 := fr_s hb73 Fb72 rfl
        have e145b73 := put_s hb73 (by rw [Fb72.size, hs0]; decide)
        have e1b73 := put_o hb73 (by decide) e1b72
        have e3b73 := put_o hb73 (by decide) e3b72
        have e143b73 := put_o hb73 (by decide) e143b72
        have e144b73 := put_o hb73 (by decide) e144b72
        refine (show wpFrom Tryd.prog O Q' _ (Act.put b72 (some 145) (undef)) W1 from ?_)
        rw [← hb73]
        clear hb73 Fb72 e1b72 e3b72 e143b72 e144b72
        refine pSkip 36 hO rfl ((wanted_if (g := 33) (m := 143) (c := false) rfl rfl (by rw [Fb73.size, hs0]; decide) e143b73).trans rfl) ?_
        obtain ⟨b74, hb74⟩ : ∃ x, x = Act.put b73 (some 146) (undef) := ⟨_, rfl⟩
        have Fb74 := fr_s hb74 Fb73 rfl
        have e146b74 := put_s hb74 (by rw [Fb73.size, hs0]; decide)
        have e1b74 := put_o hb74 (by decide) e1b73
        have e3b74 := put_o hb74 (by decide) e3b73
        have e143b74 := put_o hb74 (by decide) e143b73
        have e144b74 := put_o hb74 (by decide) e144b73
        have e145b74 := put_o hb74 (by decide) e145b73
        refine (show wpFrom Tryd.prog O Q' _ (Act.put b73 (some 146) (undef)) W1 from ?_)
        rw [← hb74]
        clear hb74 Fb73 e1b73 e3b73 e143b73 e144b73 e145b73
        refine pVal 37 (.bool false) hO rfl (wanted_none rfl) (by simp only [execOp, eval_tmpOf, eval_const, e143b74, e146b74]; first | rfl | (go_simp; done) | (go_simp; simp only [tmps_get, e143b74, e146b74]; go_simp)) ?_
        obtain ⟨b75, hb75⟩ : ∃ x, x = Act.put b74 (some 147) (.bool false) := ⟨_, rfl⟩
        have Fb75 := fr_s hb75 Fb74 rfl
        have e147b75 := put_s hb75 (by rw [Fb74.size, hs0]; decide)
        have e1b75 := put_o hb75 (by decide) e1b74
        have e3b75 := put_o hb75 (by decide) e3b74
        have e143b75 := put_o hb75 (by decide) e143b74
        have e144b75 := put_o hb75 (by decide) e144b74
        have e145b75 := put_o hb75 (by decide) e145b74
        have e146b75 := put_o hb75 (by decide) e146b74
        refine (show wpFrom Tryd.prog O Q' _ (Act.put b74 (some 147) (.bool false)) W1 from ?_)
        rw [← hb75]
        clear hb75 Fb74 e1b74 e3b74 e143b74 e144b74 e145b74 e146b74
        refine pVal 38 (.bool false) hO rfl (wanted_none rfl) (by simp only [execOp, eval_tmpOf, e147b75]; first | rfl | (go_simp; done) | (go_simp; simp only [tmps_get, e147b75]; go_simp)) ?_
        obtain ⟨b76, hb76⟩ : ∃ x, x = Act.put b75 (some 6) (.bool false) := ⟨_, rfl⟩
        have Fb76 := fr_s hb76 Fb75 rfl
        have e6b76 := put_s hb76 (by rw [Fb75.size, hs0]; decide)
        have e1b76 := put_o hb76 (by decide) e1b75
        have e3b76 := put_o hb76 (by decide) e3b75
        have e143b76 := put_o hb76 (by decide) e143b75
        have e144b76 := put_o hb76 (by decide) e144b75
        have e145b76 := put_o hb76 (by decide) e145b75
        have e146b76 := put_o hb76 (by decide) e146b75
        have e147b76 := put_o hb76 (by decide) e147b75
        refine (show wpFrom Tryd.prog O Q' _ (Act.put b75 (some 6) (.bool false)) W1 from ?_)
        rw [← hb76]
        clear hb76 Fb75 e1b75 e3b75 e143b75 e144b75 e145b75 e146b75 e147b75
        exact H _ Fb76 e6b76
      · skip
        refine pVal 34 (.pointer (some ⟨W.heap.size, 14, none⟩)) hO rfl ((wanted_if (g := 33) (m := 143) (c := true) rfl rfl (by rw [Fb71.size, hs0]; decide) e143b71).trans rfl) (by simp only [execOp, eval_tmpOf, e1b71]; first | rfl | (go_simp; done) | (go_simp; simp only [tmps_get, e1b71]; go_simp)) ?_
        obtain ⟨b77, hb77⟩ : ∃ x, x = Act.put b71 (some 144) (.pointer (some ⟨W.heap.size, 14, none⟩)) := ⟨_, rfl⟩
        have Fb77 := fr_s hb77 Fb71 rfl
        have e144b77 := put_s hb77 (by rw [Fb71.size, hs0]; decide)
        have e1b77 := put_o hb77 (by decide) e1b71
        have e3b77 := put_o hb77 (by decide) e3b71
        have e143b77 := put_o hb77 (by decide) e143b71
        refine (show wpFrom Tryd.prog O Q' _ (Act.put b71 (some 144) (.pointer (some ⟨W.heap.size, 14, none⟩))) W1 from ?_)
        rw [← hb77]
        clear hb77 Fb71 e1b71 e3b71 e143b71
        refine pVal 35 (.slice p2 n.vec.length q2) hO rfl ((wanted_if (g := 33) (m := 143) (c := true) rfl rfl (by rw [Fb77.size, hs0]; decide) e143b77).trans rfl) (by simp only [execOp, eval_tmpOf, e144b77]; first | rfl | (go_simp; done) | (go_simp; simp only [tmps_get, e144b77]; go_simp)) ?_
        obtain ⟨b78, hb78⟩ : ∃ x, x = Act.put b77 (some 145) (.slice p2 n.vec.length q2) := ⟨_, rfl⟩
        have Fb78 := fr_s hb78 Fb77 rfl
        have e145b78 := put_s hb78 (by rw [Fb77.size, hs0]; decide)
        have e1b78 := put_o hb78 (by decide) e1b77
        have e3b78 := put_o hb78 (by decide) e3b77
        have e143b78 := put_o hb78 (by decide) e143b77
        have e144b78 := put_o hb78 (by decide) e144b77
        refine (show wpFrom Tryd.prog O Q' _ (Act.put b77 (some 145) (.slice p2 n.vec.length q2)) W1 from ?_)
        rw [← hb78]
        clear hb78 Fb77 e1b77 e3b77 e143b77 e144b77
        refine pCall 36 (.bool tv) (args := #[.slice p2 n.vec.length q2]) hO rfl ((wanted_if (g := 33) (m := 143) (c := true) rfl rfl (by rw [Fb78.size, hs0]; decide) e143b78).trans rfl) (by simp only [execOp]; go_simp; simp only [tmps_get, e145b78]) VK.out ?_
        obtain ⟨b79, hb79⟩ : ∃ x, x = Act.put b78 (some 146) (.bool tv) := ⟨_, rfl⟩
        have Fb79 := fr_s hb79 Fb78 rfl
        have e146b79 := put_s hb79 (by rw [Fb78.size, hs0]; decide)
        have e1b79 := put_o hb79 (by decide) e1b78
        have e3b79 := put_o hb79 (by decide) e3b78
        have e143b79 := put_o hb79 (by decide) e143b78
        have e144b79 := put_o hb79 (by decide) e144b78
        have e145b79 := put_o hb79 (by decide) e145b78
        refine (show wpFrom Tryd.prog O Q' _ (Act.put b78 (some 146) (.bool tv)) W1 from ?_)
        rw [← hb79]
        clear hb79 Fb78 e1b78 e3b78 e143b78 e144b78 e145b78
        refine pVal 37 (.bool tv) hO rfl (wanted_none rfl) (by simp only [execOp, eval_tmpOf, eval_const, e143b79, e146b79]; first | rfl | (go_simp; done) | (go_simp; simp only [tmps_get, e143b79, e146b79]; go_simp)) ?_
        obtain ⟨b80, hb80⟩ : ∃ x, x = Act.put b79 (some 147) (.bool tv) := ⟨_, rfl⟩
        have Fb80 := fr_s hb80 Fb79 rfl
        have e147b80 := put_s hb80 (by rw [Fb79.size, hs0]; decide)
        have e1b80 := put_o hb80 (by decide) e1b79
        have e3b80 := put_o hb80 (by decide) e3b79
        have e143b80 := put_o hb80 (by decide) e143b79
        have e144b80 := put_o hb80 (by decide) e144b79
        have e145b80 := put_o hb80 (by decide) e145b79
        have e146b80 := put_o hb80 (by decide) e146b79
        refine (show wpFrom Tryd.prog O Q' _ (Act.put b79 (some 147) (.bool tv)) W1 from ?_)
        rw [← hb80]
        clear hb80 Fb79 e1b79 e3b79 e143b79 e144b79 e145b79 e146b79
        refine pVal 38 (.bool tv) hO rfl (wanted_none rfl) (by simp only [execOp, eval_tmpOf, e147b80]; first | rfl | (go_simp; done) | (go_simp; simp only [tmps_get, e147b80]; go_simp)) ?_
        obtain ⟨b81, hb81⟩ : ∃ x, x = Act.put b80 (some 6) (.bool tv) := ⟨_, rfl⟩
        have Fb81 := fr_s hb81 Fb80 rfl
        have e6b81 := put_s hb81 (by rw [Fb80.size, hs0]; decide)
        have e1b81 := put_o hb81 (by decide) e1b80
        have e3b81 := put_o hb81 (by decide) e3b80
        have e143b81 := put_o hb81 (by decide) e143b80
        have e144b81 := put_o hb81 (by decide) e144b80
        have e145b81 := put_o hb81 (by decide) e145b80
        have e146b81 := put_o hb81 (by decide) e146b80
        have e147b81 := put_o hb81 (by decide) e147b80
        refine (show wpFrom Tryd.prog O Q' _ (Act.put b80 (some 6) (.bool tv)) W1 from ?_)
        rw [← hb81]
        clear hb81 Fb80 e1b80 e3b80 e143b80 e144b80 e145b80 e146b80 e147b80
        exact H _ Fb81 e6b81
    clear Fb71 e1b71 e3b71 e143b71
    intro b82 Fb82 e6b82
    have e1b82 : tmpOf b82 1 = .pointer (some ⟨W.heap.size, 0, none⟩) := (Fb82.agree 1 (by decide)).trans e1a0
    have e3b82 : tmpOf b82 3 = .int .u8 n.kind := (Fb82.agree 3 (by decide)).trans e3a0
    obtain ⟨k4, hk4⟩ : ∃ x, x = (k3 && tv) := ⟨_, rfl⟩
    rw [← hk4] at e6b82
    have Hk4 := Lib.hid hk4
    clear hk4
    refine pEnd 39 hO rfl (hR _ ⟨Fb82.size.trans hs0, Fb82.defers.trans hd0, e1b82, e3b82, e6b82.trans (congrArg Value.bool ?_)⟩)
    unfold lensK
    rw [TN.out, TM.out.1.out, TM.out.2.1.out, TM.out.2.2.1.out, TM.out.2.2.2.out, TV.out, Hk4.out, Hk3.out, Hk2.out, Hk1.out, Hk0.out]
  case after6 =>
  rintro a6 ⟨hs6, hd6, e1a6, e3a6, e6a6⟩
  obtain ⟨f, rfl, hfj⟩ := explode219 a6 hs6 hd6
  have g1 : f 1 = .pointer (some ⟨W.heap.size, 0, none⟩) := (hfj 1).symm.trans e1a6
  have g6 : f 6 = .bool (lensK n) := (hfj 6).symm.trans e6a6
  obtain ⟨s0, hs0⟩ : ∃ s, s = lensK n := ⟨_, rfl⟩
  rw [← hs0] at g6
  have LK := Lib.hid hs0.symm
  simp only [g1, g6]
  have z12 := ZZ.out.1
  have z13 := ZZ.out.2.1
  have z15 := ZZ.out.2.2.2
  clear hs6 hd6 e1a6 e3a6 e6a6 hfj g1 g6 hs0 VK TV TN z1 z2 z3 z4 z5 z6 z7 z8 z9 z10 z11 wk wef wcode wwho wl0 wl1 wl2 wl3 NN TT NM TM hnm hne NK NK1 ddk ddef ddcode ddwho sk sef scode swho
  go_wp2_with fail
  go_loopg [6, 151] n.parts.length (fun q s6 i wr => ∃ k : Nat, q = n.parts.length - k ∧ k ≤ n.parts.length ∧ i = .int .i64 k ∧ s6 = .bool (s0 && (List.range k).all (partOk n.parts)) ∧ wr = W1)
  case atStart => exact ⟨0, rfl, by omega, rfl, by simp, rfl⟩
  case round =>
    obtain ⟨k, rfl, hk, rfl, rfl, rfl⟩ := hrel
    have RS := Lib.hid (all_range_succ k (partOk n.parts))
    obtain ⟨s, hs⟩ : ∃ s, s = (s0 && (List.range k).all (partOk n.parts)) := ⟨_, rfl⟩
    rw [← hs]
    have HS := Lib.hid hs.symm
    clear hs
    by_cases hlk : k < n.parts.length
    · obtain ⟨_, _, hv, -, -, -, hcell⟩ := V1.out.parts.slice
      obtain ⟨rfl, -, rfl⟩ := Value.slice.inj hv
      obtain ⟨b, off, rfl, d0⟩ := hcell k hlk
      have hg : n.parts.getD k 0 = n.parts[k] := by simp [List.getD, List.getElem?_eq_getElem hlk]
      have k0 : (0 : Int) ≤ (k : Int) := by omega
      have k1 : (k : Int) < (n.parts.length : Int) := by omega
      cases s
      · clear hv hcell hg
        go_wp2_with fail
        go_roundg (n.parts.length - (k + 1))
        case measure => omega
        case rel => exact ⟨k + 1, rfl, by omega, by go_num, congrArg Value.bool (by rw [RS.out, ← Bool.and_assoc, HS.out]; rfl), rfl⟩
      · by_cases e0 : n.parts[k] < 0
        · have PF : Hid (partOk n.parts k = false) := by simp only [partOk, hg]; simp; intro; omega
          have x0 : decide (0 ≤ n.parts[k]) = false := decide_eq_false (by omega)
          clear hv hcell hg
          go_wp2_with fail
          go_roundg (n.parts.length - (k + 1))
          case measure => omega
          case rel => exact ⟨k + 1, rfl, by omega, by go_num, congrArg Value.bool (by rw [RS.out, ← Bool.and_assoc, HS.out, PF.out]; rfl), rfl⟩
        · have e0' : (0 : Int) ≤ n.parts[k] := by omega
          have x0 : decide (0 ≤ n.parts[k]) = true := decide_eq_true e0'
          by_cases e1 : 16 ≤ n.parts[k]
          · have PF : Hid (partOk n.parts k = false) := by simp only [partOk, hg]; simp; intro; omega
            have x1 : decide (n.parts[k] ≤ 15) = false := decide_eq_false (by omega)
            clear hv hcell hg
            go_wp2_with fail
            go_roundg (n.parts.length - (k + 1))
            case measure => omega
            case rel => exact ⟨k + 1, rfl, by omega, by go_num, congrArg Value.bool (by rw [RS.out, ← Bool.and_assoc, HS.out, PF.out]; rfl), rfl⟩
          · have e1' : n.parts[k] ≤ 15 := by omega
            have x1 : decide (n.parts[k] ≤ 15) = true := decide_eq_true e1'
            by_cases e2 : k = 0
            · subst e2
              have PF := Lib.hid (show partOk n.parts 0 = true by unfold partOk; rw [hg]; simp; omega)
              have d0' : wr.cell? ⟨b, off, none⟩ = some (.int .i64 (n.parts[0])) := by simpa using d0
              clear hv hcell hg d0
              go_wp2_with fail
              go_roundg (n.parts.length - (0 + 1))
              case measure => omega
              case rel => exact ⟨1, rfl, by omega, rfl, congrArg Value.bool (by rw [RS.out, ← Bool.and_assoc, HS.out, PF.out]; rfl), rfl⟩
            · obtain ⟨kk, rfl⟩ : ∃ kk, k = kk + 1 := ⟨k - 1, by omega⟩
              obtain ⟨b', off', hb', d1⟩ := hcell kk (by omega)
              obtain ⟨rfl, rfl⟩ : b = b' ∧ off = off' := by simpa using hb'
              have hg1 : n.parts.getD kk 0 = n.parts[kk] := by simp [List.getD, List.getElem?_eq_getElem (show kk < n.parts.length by omega)]
              have m2 : (0 : Int) ≤ (kk : Int) := by omega
              have m3 : (kk : Int) < (n.parts.length : Int) := by omega
              have m5 : (kk : Int) + 1 < (n.parts.length : Int) := by omega
              have m6 : (0 : Int) < (kk : Int) + 1 := by omega
              have m7 : ¬ (kk : Int) + 1 = 0 := by omega
              have m8 : decide ((kk : Int) + 1 = 0) = false := decide_eq_false m7
              by_cases e3 : n.parts[kk] < n.parts[kk + 1]
              · have PF := Lib.hid (show partOk n.parts (kk + 1) = true by unfold partOk; rw [hg, Nat.add_sub_cancel, hg1]; simp; omega)
                have x3 : decide (n.parts[kk] < n.parts[kk + 1]) = true := decide_eq_true e3
                clear hv hcell hg hg1 hb'
                go_wp2_with fail
                go_roundg (n.parts.length - (kk + 1 + 1))
                case measure => omega
                case rel => exact ⟨kk + 1 + 1, rfl, by omega, by go_num, congrArg Value.bool (by rw [RS.out, ← Bool.and_assoc, HS.out, PF.out]; rfl), rfl⟩
              · have PF := Lib.hid (show partOk n.parts (kk + 1) = false by unfold partOk; rw [hg, Nat.add_sub_cancel, hg1]; simp; intros; omega)
                have x3 : decide (n.parts[kk] < n.parts[kk + 1]) = false := decide_eq_false e3
                clear hv hcell hg hg1 hb'
                go_wp2_with fail
                go_roundg (n.parts.length - (kk + 1 + 1))
                case measure => omega
                case rel => exact ⟨kk + 1 + 1, rfl, by omega, by go_num, congrArg Value.bool (by rw [RS.out, ← Bool.and_assoc, HS.out, PF.out]; rfl), rfl⟩
    · obtain rfl : k = n.parts.length := by omega
      have HP := Lib.hid (show (lensK n && partsB n.parts) = s from by rw [LK.out]; exact HS.out)
      clear RS HS LK
      obtain ⟨wo, rfl⟩ : ∃ wo : World, wo = wr := ⟨_, rfl⟩
      go_wp2_with fail
      go_loopg [6, 183] n.ops.length (fun q s6 i wr => ∃ j : Nat, q = n.ops.length - j ∧ j ≤ n.ops.length ∧ i = .int .i64 j ∧ s6 = .bool (s && !(n.ops.take j).any badOp) ∧ Below wo.heap.size wo wr)
      case atStart => exact ⟨0, rfl, by omega, rfl, by simp, Below.refl _ _⟩
      case round =>
        obtain ⟨j, rfl, hj, rfl, rfl, hb⟩ := hrel
        obtain ⟨s2, hs2⟩ : ∃ x, x = (s && !(n.ops.take j).any badOp) := ⟨_, rfl⟩
        rw [← hs2]
        have HB := Lib.hid hb
        by_cases hlj : j < n.ops.length
        · have RS := Lib.hid (any_take_succ n.ops badOp j hlj)
          have HS := Lib.hid hs2.symm
          obtain ⟨b, off, u, rfl, -, c0, c1, hn, -⟩ := (V1.out.ops.below hb).elem hlj
          obtain ⟨up, uc, rfl, -, -, -, -⟩ := hn.slice
          have k0 : (0 : Int) ≤ (j : Int) := by omega
          have k1 : (j : Int) < (n.ops.length : Int) := by omega
          have hx0 : 0 ≤ n.ops[j].1 := (FT.out.ops _ (List.getElem_mem hlj)).1
          have BA := Lib.hid (hb.alloc hb.size (.cells #[.int .u64 n.ops[j].1, .slice up n.ops[j].2.length uc] 105))
          have hba := (Below.refl wr.heap.size wr).alloc (Nat.le_refl _) (.cells #[.int .u64 n.ops[j].1, .slice up n.ops[j].2.length uc] 105)
          have VC := Lib.hid (vecK n.ops[j].2 _ _ (hn.below hba))
          obtain ⟨tq, htq⟩ : ∃ x, x = (decide (n.ops[j].2.length = 0) || rightB n.ops[j].2) := ⟨_, rfl⟩
          rw [← htq] at VC
          have TQ := Lib.hid htq.symm
          clear hs2 hb hn hba htq
          cases s2
          · go_wp2_with fail
            go_roundg (n.ops.length - (j + 1))
            case measure => omega
            case rel => exact ⟨j + 1, rfl, by omega, by go_num, congrArg Value.bool (by rw [RS.out, Bool.not_or, ← Bool.and_assoc, HS.out]; rfl), BA.out⟩
          · by_cases hid : n.ops[j].1 ≤ 1099511627776
            · have PB := Lib.hid (show badOp n.ops[j] = !tq from by unfold badOp; rw [decide_eq_false (show ¬ 1099511627776 < n.ops[j].1 by omega), ← TQ.out, bareB_eq]; rfl)
              have xd : decide (n.ops[j].1 ≤ 1099511627776) = true := decide_eq_true hid
              go_wp2_with (with_reducible refine VC.out.mono ?_; rintro e w' ⟨rfl, rfl⟩)
              go_roundg (n.ops.length - (j + 1))
              case measure => omega
              case rel => exact ⟨j + 1, rfl, by omega, by go_num, congrArg Value.bool (by rw [RS.out, Bool.not_or, ← Bool.and_assoc, HS.out, PB.out]; simp), BA.out⟩
            · have PB := Lib.hid (show badOp n.ops[j] = true from by unfold badOp; rw [decide_eq_true (show 1099511627776 < n.ops[j].1 by omega)]; rfl)
              have xd : decide (n.ops[j].1 ≤ 1099511627776) = false := decide_eq_false hid
              go_wp2_with fail
              go_roundg (n.ops.length - (j + 1))
              case measure => omega
              case rel => exact ⟨j + 1, rfl, by omega, by go_num, congrArg Value.bool (by rw [RS.out, Bool.not_or, ← Bool.and_assoc, HS.out, PB.out]; rfl), BA.out⟩
        · obtain rfl : j = n.ops.length := by omega
          rw [List.take_length] at hs2
          have HP2 := Lib.hid (show (lensK n && partsB n.parts && !n.ops.any badOp) = s2 from by rw [HP.out]; exact hs2.symm)
          have z15' := below_cells hb z15
          have V2 := Lib.hid (V1.out.below hb)
          have BW2 := Lib.hid (BW.out.trans (hb.mono BW.out.size))
          clear hs2 hb HB HP V1 BW z12 z13 z15
          obtain ⟨wp, rfl⟩ : ∃ wp : World, wp = wr := ⟨_, rfl⟩
          go_wp2_with fail
          go_loopg [6, 202] n.hits.length (fun q s6 i wr => ∃ j : Nat, q = n.hits.length - j ∧ j ≤ n.hits.length ∧ i = .int .i64 j ∧ s6 = .bool (s2 && !(n.hits.take j).any badHit) ∧ Below wp.heap.size wp wr)
          case atStart => exact ⟨0, rfl, by omega, rfl, by simp, Below.refl _ _⟩
          case round =>
            obtain ⟨j, rfl, hj, rfl, rfl, hb⟩ := hrel
            obtain ⟨s3, hs3⟩ : ∃ x, x = (s2 && !(n.hits.take j).any badHit) := ⟨_, rfl⟩
            rw [← hs3]
            by_cases hlj : j < n.hits.length
            · have RS := Lib.hid (any_take_succ n.hits badHit j hlj)
              have HS := Lib.hid hs3.symm
              obtain ⟨rs', -, -, hel⟩ := (V2.out.hits.below hb).rows
              obtain ⟨b, off, up, uc, -, rfl, -, -, c0, c1, c2, hn, -⟩ := hel j hlj
              have k0 : (0 : Int) ≤ (j : Int) := by omega
              have k1 : (j : Int) < (n.hits.length : Int) := by omega
              have hx0 : 0 ≤ n.hits[j].id := (FT.out.hits _ (List.getElem_mem hlj)).1
              have BA := Lib.hid (hb.alloc hb.size (.cells #[.int .u64 n.hits[j].id, .int .u64 n.hits[j].dist, .slice up n.hits[j].vec.length uc] 40))
              have hba := (Below.refl wr.heap.size wr).alloc (Nat.le_refl _) (.cells #[.int .u64 n.hits[j].id, .int .u64 n.hits[j].dist, .slice up n.hits[j].vec.length uc] 40)
              have VC := Lib.hid (refRight n.hits[j].vec _ _ (hn.below hba))
              obtain ⟨tq, htq⟩ : ∃ x, x = rightB n.hits[j].vec := ⟨_, rfl⟩
              rw [← htq] at VC
              have TQ := Lib.hid htq.symm
              clear hs3 hb hn hba htq hel
              cases s3
              · go_wp2_with fail
                go_roundg (n.hits.length - (j + 1))
                case measure => omega
                case rel => exact ⟨j + 1, rfl, by omega, by go_num, congrArg Value.bool (by rw [RS.out, Bool.not_or, ← Bool.and_assoc, HS.out]; rfl), BA.out⟩
              · by_cases hid : n.hits[j].id ≤ 1099511627776
                · have PB := Lib.hid (show badHit n.hits[j] = !tq from by unfold badHit; rw [decide_eq_false (show ¬ 1099511627776 < n.hits[j].id by omega), ← TQ.out]; rfl)
                  have xd : decide (n.hits[j].id ≤ 1099511627776) = true := decide_eq_true hid
                  go_wp2_with (with_reducible refine VC.out.mono ?_; rintro e w' ⟨rfl, rfl⟩)
                  go_roundg (n.hits.length - (j + 1))
                  case measure => omega
                  case rel => exact ⟨j + 1, rfl, by omega, by go_num, congrArg Value.bool (by rw [RS.out, Bool.not_or, ← Bool.and_assoc, HS.out, PB.out]; simp), BA.out⟩
                · have PB := Lib.hid (show badHit n.hits[j] = true from by unfold badHit; rw [decide_eq_true (show 1099511627776 < n.hits[j].id by omega)]; rfl)
                  have xd : decide (n.hits[j].id ≤ 1099511627776) = false := decide_eq_false hid
                  go_wp2_with fail
                  go_roundg (n.hits.length - (j + 1))
                  case measure => omega
                  case rel => exact ⟨j + 1, rfl, by omega, by go_num, congrArg Value.bool (by rw [RS.out, Bool.not_or, ← Bool.and_assoc, HS.out, PB.out]; rfl), BA.out⟩
            · obtain rfl : j = n.hits.length := by omega
              rw [List.take_length] at hs3
              have HP3 := Lib.hid (show rgtB n = s3 from by unfold rgtB; rw [S1.out, Bool.true_and, HP2.out]; exact hs3.symm)
              have BF := Lib.hid (BW2.out.trans (hb.mono BW2.out.size))
              clear hs3 hb
              go_wp2_with fail
              go_ret
              exact ⟨ret_bool HP3.out.symm, BF.out⟩

end Go.Proofs.YtfmlhdikagogcaaDoor
