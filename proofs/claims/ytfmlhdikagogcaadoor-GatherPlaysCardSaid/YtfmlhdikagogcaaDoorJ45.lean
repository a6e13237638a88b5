/-
  note: the document's Right, of a Query and of a Seen: the walk.
-/
import Derived.Test.YtfmlhdikagogcaaDoorJ42
import Derived.Test.YtfmlhdikagogcaaDoorJ39
import Derived.Test.YtfmlhdikagogcaaDoorJ19
import Derived.Test.YtfmlhdikagogcaaDoorJ44
namespace Go.Proofs.YtfmlhdikagogcaaDoor
open Go.RowKit
set_option maxRecDepth 20000

def signsK (n : Nt) : Bool := decide (0 ≤ n.k) && decide (0 ≤ n.ef) && decide (0 ≤ n.code) && decide (0 ≤ n.who)
def numsK (n : Nt) : Bool := numB n.kind 116 n.txn 18446744073709551615 && numB n.kind 98 n.batch 18446744073709551615 && numB n.kind 115 n.stamp 1099511627776 && numB n.kind 97 n.after 1099511627776 && numB n.kind 109 n.mark 1099511627776 && numB n.kind 113 n.query 18446744073709551615 && numB n.kind 105 n.id 1099511627776 && numB n.kind 107 n.k 16 && numB n.kind 101 n.ef 256 && numB n.kind 99 n.code 13 && numB n.kind 119 n.who 15
def lensK (n : Nt) : Bool := numsK n && numB n.kind 112 (n.parts.length : Int) 4 && numB n.kind 111 (n.ops.length : Int) 16 && numB n.kind 118 (n.vec.length : Int) 8 && numB n.kind 104 (n.hits.length : Int) 16 && (decide (n.vec.length = 0) || rightB n.vec)
def rgtB (n : Nt) : Bool := signsK n && lensK n && partsB n.parts && !n.ops.any badOp && !n.hits.any badHit

theorem put_o {a b : Act} {i j : Nat} {v u : Value} (h : b = Act.put a (some i) v) (hne : i ≠ j) (e : tmpOf a j = u) : tmpOf b j = u := by rw [h, tmpOf_put_other _ _ _ _ hne]; exact e

theorem put_s {a b : Act} {i : Nat} {v : Value} (h : b = Act.put a (some i) v) (hi : i < a.tmps.size) : tmpOf b i = v := by rw [h]; exact tmpOf_put_same _ _ _ hi

theorem stN {P : Program} {O : Array Oper} {Q : Exit → Act → World → Prop} {r : Nat} {a : Act} {i : Nat} {v : Value} {w : World} (h : ∀ b, b = Act.put a (some i) v → wpFrom P O Q r b w) : wpFrom P O Q r (Act.put a (some i) v) w := h _ rfl

theorem fr_s {a0 a b : Act} {i : Nat} {v : Value} {scr : List Nat} (h : b = Act.put a (some i) v) (f : Fr a0 a scr) (hd : scr.contains i = true) : Fr a0 b scr := by rw [h]; exact f.put i v hd

theorem u64_wrap (x : Int) (h : 0 ≤ x ∧ x ≤ 9223372036854775807) : IntKind.u64.wrap x = x := by simp only [IntKind.wrap, IntKind.bits, IntKind.signed]; simp; omega

theorem explode219 (a : Act) (h : a.tmps.size = 219) (hd : a.defers = []) : ∃ f : Nat → Value, a = ⟨#[f 0, f 1, f 2, f 3, f 4, f 5, f 6, f 7, f 8, f 9, f 10, f 11, f 12, f 13, f 14, f 15, f 16, f 17, f 18, f 19, f 20, f 21, f 22, f 23, f 24, f 25, f 26, f 27, f 28, f 29, f 30, f 31, f 32, f 33, f 34, f 35, f 36, f 37, f 38, f 39, f 40, f 41, f 42, f 43, f 44, f 45, f 46, f 47, f 48, f 49, f 50, f 51, f 52, f 53, f 54, f 55, f 56, f 57, f 58, f 59, f 60, f 61, f 62, f 63, f 64, f 65, f 66, f 67, f 68, f 69, f 70, f 71, f 72, f 73, f 74, f 75, f 76, f 77, f 78, f 79, f 80, f 81, f 82, f 83, f 84, f 85, f 86, f 87, f 88, f 89, f 90, f 91, f 92, f 93, f 94, f 95, f 96, f 97, f 98, f 99, f 100, f 101, f 102, f 103, f 104, f 105, f 106, f 107, f 108, f 109, f 110, f 111, f 112, f 113, f 114, f 115, f 116, f 117, f 118, f 119, f 120, f 121, f 122, f 123, f 124, f 125, f 126, f 127, f 128, f 129, f 130, f 131, f 132, f 133, f 134, f 135, f 136, f 137, f 138, f 139, f 140, f 141, f 142, f 143, f 144, f 145, f 146, f 147, f 148, f 149, f 150, f 151, f 152, f 153, f 154, f 155, f 156, f 157, f 158, f 159, f 160, f 161, f 162, f 163, f 164, f 165, f 166, f 167, f 168, f 169, f 170, f 171, f 172, f 173, f 174, f 175, f 176, f 177, f 178, f 179, f 180, f 181, f 182, f 183, f 184, f 185, f 186, f 187, f 188, f 189, f 190, f 191, f 192, f 193, f 194, f 195, f 196, f 197, f 198, f 199, f 200, f 201, f 202, f 203, f 204, f 205, f 206, f 207, f 208, f 209, f 210, f 211, f 212, f 213, f 214, f 215, f 216, f 217, f 218], []⟩ ∧ ∀ j, tmpOf a j = f j := by
  refine ⟨tmpOf a, ?_, fun _ => rfl⟩
  obtain ⟨t, d⟩ := a
  simp only at h hd
  subst hd
  exact congrArg (fun x => Act.mk x []) ((list_tmp t 219 h).trans rfl)

theorem all_range_succ (k : Nat) (p : Nat → Bool) : (List.range (k + 1)).all p = ((List.range k).all p && p k) := by
  rw [List.range_succ, List.all_append]
  simp

theorem any_take_succ {α : Type} (l : List α) (p : α → Bool) (j : Nat) (h : j < l.length) : (l.take (j + 1)).any p = ((l.take j).any p || p l[j]) := by
  rw [List.take_succ_eq_append_getElem h, List.any_append]
  simp

theorem bareB_eq (xs : List Int) : bareB xs = (decide (xs.length = 0) || rightB xs) := by
  unfold bareB
  congr 1

def scrR6 : List Nat := [6, 110, 111, 112, 113, 114, 115, 116, 117, 118, 119, 120, 121, 122, 123, 124, 125, 126, 127, 128, 129, 130, 131, 132, 133, 134, 135, 136, 137, 138, 139, 140, 141, 142, 143, 144, 145, 146, 147]

def scrR5 : List Nat := [6, 42, 43, 44, 45, 46, 47, 48, 49, 50, 51, 52, 53, 54, 55, 56, 57, 58, 59, 60, 61, 62, 63, 64, 65, 66, 67, 68, 69, 70, 71, 72, 73, 74, 75, 76, 77, 78, 79, 80, 81, 82, 83, 84, 85, 86, 87, 88, 89, 90, 91, 92, 93, 94, 95, 96, 97, 98, 99, 100, 101, 102, 103, 104, 105, 106, 107, 108, 109]

set_option maxHeartbeats 40000000 in
theorem refRightN (n : Nt) (hk : n.kind = 8 ∨ n.kind = 10) (hf : n.Fits) (F : Nat → Prop) (vp vo vv vh : Value) (W : World) (hv : NoteV W F n vp vo vv vh) :
    Calls Tryd.prog 20 #[.agg (n.cells vp vo vv vh)] W fun e w' => e = .returned (.bool (rgtB n)) ∧ Below W.heap.size W w' := by
  obtain ⟨p0, q0, rfl, a0, b0, -, -⟩ := hv.parts.slice
  obtain ⟨p1, q1, rfl, a1, b1, -, -⟩ := id hv.ops
  obtain ⟨p2, q2, rfl, a2, b2, -, -⟩ := hv.vec.slice
  obtain ⟨p3, q3, rfl, a3, b3, -, -⟩ := id hv.hits
  have V := Lib.hid hv
  have l0 : n.parts.length ≤ 9223372036854775807 := by omega
  have l1 : n.ops.length ≤ 9223372036854775807 := by omega
  have l2 : n.vec.length ≤ 9223372036854775807 := by omega
  have l3 : n.hits.length ≤ 9223372036854775807 := by omega
  have FT := Lib.hid hf
  have NK := Lib.hid (fun w => nameK n.kind hk w)
  have HK := Lib.hid hk
  have hnm : ¬ (kname n.kind).toList = [] := by rcases hk with h | h <;> (rw [h, ByteArray.toList_eq]; decide)
  obtain ⟨nm, hnme⟩ : ∃ nm, nm = kname n.kind := ⟨_, rfl⟩
  rw [← hnme] at hnm NK
  have hne : nm.toList.isEmpty = false := by rw [Bool.eq_false_iff]; intro h; exact hnm (List.isEmpty_iff.1 h)
  clear a0 b0 a1 b1 a2 b2 a3 b3 hv hf hk hnme
  unfold Nt.cells
  go_enter Tryd.func20, Tryd.ntmps20
  go_upto_region 1 with fail
  obtain ⟨W1, hW1⟩ : ∃ W1, W1 = W.alloc (.cells #[.int .u8 n.kind, .int .u64 n.txn, .int .u64 n.batch, .int .u64 n.stamp, .int .u64 n.after, .int .u64 n.mark, .int .u64 n.query, .int .u64 n.id, .int .i64 n.k, .int .i64 n.ef, .int .i64 n.code, .int .i64 n.who, .slice p0 n.parts.length q0, .slice p1 n.ops.length q1, .slice p2 n.vec.length q2, .slice p3 n.hits.length q3] 53) := ⟨_, rfl⟩
  have BW : Hid (Below W.heap.size W W1) := by rw [hW1]; exact (Below.refl _ _).alloc (Nat.le_refl _) _
  have z0 : W1.cell? ⟨W.heap.size, 0, none⟩ = some (.int .u8 n.kind) := by rw [hW1]; go_simp
  have z1 : W1.cell? ⟨W.heap.size, 1, none⟩ = some (.int .u64 n.txn) := by rw [hW1]; go_simp
  have z2 : W1.cell? ⟨W.heap.size, 2, none⟩ = some (.int .u64 n.batch) := by rw [hW1]; go_simp
  have z3 : W1.cell? ⟨W.heap.size, 3, none⟩ = some (.int .u64 n.stamp) := by rw [hW1]; go_simp
  have z4 : W1.cell? ⟨W.heap.size, 4, none⟩ = some (.int .u64 n.after) := by rw [hW1]; go_simp
  have z5 : W1.cell? ⟨W.heap.size, 5, none⟩ = some (.int .u64 n.mark) := by rw [hW1]; go_simp
  have z6 : W1.cell? ⟨W.heap.size, 6, none⟩ = some (.int .u64 n.query) := by rw [hW1]; go_simp
  have z7 : W1.cell? ⟨W.heap.size, 7, none⟩ = some (.int .u64 n.id) := by rw [hW1]; go_simp
  have z8 : W1.cell? ⟨W.heap.size, 8, none⟩ = some (.int .i64 n.k) := by rw [hW1]; go_simp
  have z9 : W1.cell? ⟨W.heap.size, 9, none⟩ = some (.int .i64 n.ef) := by rw [hW1]; go_simp
  have z10 : W1.cell? ⟨W.heap.size, 10, none⟩ = some (.int .i64 n.code) := by rw [hW1]; go_simp
  have z11 : W1.cell? ⟨W.heap.size, 11, none⟩ = some (.int .i64 n.who) := by rw [hW1]; go_simp
  have z12 : W1.cell? ⟨W.heap.size, 12, none⟩ = some (.slice p0 n.parts.length q0) := by rw [hW1]; go_simp
  have z13 : W1.cell? ⟨W.heap.size, 13, none⟩ = some (.slice p1 n.ops.length q1) := by rw [hW1]; go_simp
  have z14 : W1.cell? ⟨W.heap.size, 14, none⟩ = some (.slice p2 n.vec.length q2) := by rw [hW1]; go_simp
  have z15 : W1.cell? ⟨W.heap.size, 15, none⟩ = some (.slice p3 n.hits.length q3) := by rw [hW1]; go_simp
  rw [← hW1]
  clear hW1
  have V1 := Lib.hid (V.out.below BW.out)
  have NK1 := Lib.hid (NK.out W1)
  go_wp2_with fail
  with_reducible refine NK1.out.mono ?_
  rintro e w' ⟨rfl, rfl⟩
  by_cases sk : n.k < 0
  · have ddk : decide (n.k < 0) = true := decide_eq_true sk
    have S0 := Lib.hid (show signsK n = false by unfold signsK; rw [decide_eq_false (show ¬ 0 ≤ n.k by omega)]; simp)
    go_wp2_with fail
    go_ret
    exact ⟨ret_bool (by unfold rgtB; rw [S0.out]; rfl), BW.out⟩
  have ddk : decide (n.k < 0) = false := decide_eq_false sk
  by_cases sef : n.ef < 0
  · have ddef : decide (n.ef < 0) = true := decide_eq_true sef
    have S0 := Lib.hid (show signsK n = false by unfold signsK; rw [decide_eq_false (show ¬ 0 ≤ n.ef by omega)]; simp)
    go_wp2_with fail
    go_ret
    exact ⟨ret_bool (by unfold rgtB; rw [S0.out]; rfl), BW.out⟩
  have ddef : decide (n.ef < 0) = false := decide_eq_false sef
  by_cases scode : n.code < 0
  · have ddcode : decide (n.code < 0) = true := decide_eq_true scode
    have S0 := Lib.hid (show signsK n = false by unfold signsK; rw [decide_eq_false (show ¬ 0 ≤ n.code by omega)]; simp)
    go_wp2_with fail
    go_ret
    exact ⟨ret_bool (by unfold rgtB; rw [S0.out]; rfl), BW.out⟩
  have ddcode : decide (n.code < 0) = false := decide_eq_false scode
  by_cases swho : n.who < 0
  · have ddwho : decide (n.who < 0) = true := decide_eq_true swho
    have S0 := Lib.hid (show signsK n = false by unfold signsK; rw [decide_eq_false (show ¬ 0 ≤ n.who by omega)]; simp)
    go_wp2_with fail
    go_ret
    exact ⟨ret_bool (by unfold rgtB; rw [S0.out]; rfl), BW.out⟩
  have ddwho : decide (n.who < 0) = false := decide_eq_false swho
  have S1 := Lib.hid (show signsK n = true by unfold signsK; rw [decide_eq_true (show 0 ≤ n.k by omega), decide_eq_true (show 0 ≤ n.ef by omega), decide_eq_true (show 0 ≤ n.code by omega), decide_eq_true (show 0 ≤ n.who by omega)]; rfl)
  have wk := u64_wrap n.k ⟨by omega, FT.out.k.2⟩
  have wef := u64_wrap n.ef ⟨by omega, FT.out.ef.2⟩
  have wcode := u64_wrap n.code ⟨by omega, FT.out.code.2⟩
  have wwho := u64_wrap n.who ⟨by omega, FT.out.who.2⟩
  have wl0 := u64_wrap (n.parts.length : Int) ⟨by omega, by omega⟩
  have wl1 := u64_wrap (n.ops.length : Int) ⟨by omega, by omega⟩
  have wl2 := u64_wrap (n.vec.length : Int) ⟨by omega, by omega⟩
  have wl3 := u64_wrap (n.hits.length : Int) ⟨by omega, by omega⟩
  go_upto_region 5 with fail
  obtain ⟨t0, ht0⟩ : ∃ t, t = numB n.kind 116 n.txn 18446744073709551615 := ⟨_, rfl⟩
  have N0 := Lib.hid (show Calls Tryd.prog 48 #[.int .u8 n.kind, .int .u8 116, .int .u64 n.txn, .int .u64 18446744073709551615] W1 fun e w' => e = .returned (.bool t0) ∧ W1 = w' from ht0 ▸ numK n.kind 116 n.txn 18446744073709551615 HK.out W1)
  have T0 := Lib.hid ht0.symm
  obtain ⟨t1, ht1⟩ : ∃ t, t = numB n.kind 98 n.batch 18446744073709551615 := ⟨_, rfl⟩
  have N1 := Lib.hid (show Calls Tryd.prog 48 #[.int .u8 n.kind, .int .u8 98, .int .u64 n.batch, .int .u64 18446744073709551615] W1 fun e w' => e = .returned (.bool t1) ∧ W1 = w' from ht1 ▸ numK n.kind 98 n.batch 18446744073709551615 HK.out W1)
  have T1 := Lib.hid ht1.symm
  obtain ⟨t2, ht2⟩ : ∃ t, t = numB n.kind 115 n.stamp 1099511627776 := ⟨_, rfl⟩
  have N2 := Lib.hid (show Calls Tryd.prog 48 #[.int .u8 n.kind, .int .u8 115, .int .u64 n.stamp, .int .u64 1099511627776] W1 fun e w' => e = .returned (.bool t2) ∧ W1 = w' from ht2 ▸ numK n.kind 115 n.stamp 1099511627776 HK.out W1)
  have T2 := Lib.hid ht2.symm
  obtain ⟨t3, ht3⟩ : ∃ t, t = numB n.kind 97 n.after 1099511627776 := ⟨_, rfl⟩
  have N3 := Lib.hid (show Calls Tryd.prog 48 #[.int .u8 n.kind, .int .u8 97, .int .u64 n.after, .int .u64 1099511627776] W1 fun e w' => e = .returned (.bool t3) ∧ W1 = w' from ht3 ▸ numK n.kind 97 n.after 1099511627776 HK.out W1)
  have T3 := Lib.hid ht3.symm
  obtain ⟨t4, ht4⟩ : ∃ t, t = numB n.kind 109 n.mark 1099511627776 := ⟨_, rfl⟩
  have N4 := Lib.hid (show Calls Tryd.prog 48 #[.int .u8 n.kind, .int .u8 109, .int .u64 n.mark, .int .u64 1099511627776] W1 fun e w' => e = .returned (.bool t4) ∧ W1 = w' from ht4 ▸ numK n.kind 109 n.mark 1099511627776 HK.out W1)
  have T4 := Lib.hid ht4.symm
  obtain ⟨t5, ht5⟩ : ∃ t, t = numB n.kind 113 n.query 18446744073709551615 := ⟨_, rfl⟩
  have N5 := Lib.hid (show Calls Tryd.prog 48 #[.int .u8 n.kind, .int .u8 113, .int .u64 n.query, .int .u64 18446744073709551615] W1 fun e w' => e = .returned (.bool t5) ∧ W1 = w' from ht5 ▸ numK n.kind 113 n.query 18446744073709551615 HK.out W1)
  have T5 := Lib.hid ht5.symm
  obtain ⟨t6, ht6⟩ : ∃ t, t = numB n.kind 105 n.id 1099511627776 := ⟨_, rfl⟩
  have N6 := Lib.hid (show Calls Tryd.prog 48 #[.int .u8 n.kind, .int .u8 105, .int .u64 n.id, .int .u64 1099511627776] W1 fun e w' => e = .returned (.bool t6) ∧ W1 = w' from ht6 ▸ numK n.kind 105 n.id 1099511627776 HK.out W1)
  have T6 := Lib.hid ht6.symm
  obtain ⟨t7, ht7⟩ : ∃ t, t = numB n.kind 107 n.k 16 := ⟨_, rfl⟩
  have N7 := Lib.hid (show Calls Tryd.prog 48 #[.int .u8 n.kind, .int .u8 107, .int .u64 n.k, .int .u64 16] W1 fun e w' => e = .returned (.bool t7) ∧ W1 = w' from ht7 ▸ numK n.kind 107 n.k 16 HK.out W1)
  have T7 := Lib.hid ht7.symm
  obtain ⟨t8, ht8⟩ : ∃ t, t = numB n.kind 101 n.ef 256 := ⟨_, rfl⟩
  have N8 := Lib.hid (show Calls Tryd.prog 48 #[.int .u8 n.kind, .int .u8 101, .int .u64 n.ef, .int .u64 256] W1 fun e w' => e = .returned (.bool t8) ∧ W1 = w' from ht8 ▸ numK n.kind 101 n.ef 256 HK.out W1)
  have T8 := Lib.hid ht8.symm
  obtain ⟨t9, ht9⟩ : ∃ t, t = numB n.kind 99 n.code 13 := ⟨_, rfl⟩
  have N9 := Lib.hid (show Calls Tryd.prog 48 #[.int .u8 n.kind, .int .u8 99, .int .u64 n.code, .int .u64 13] W1 fun e w' => e = .returned (.bool t9) ∧ W1 = w' from ht9 ▸ numK n.kind 99 n.code 13 HK.out W1)
  have T9 := Lib.hid ht9.symm
  obtain ⟨t10, ht10⟩ : ∃ t, t = numB n.kind 119 n.who 15 := ⟨_, rfl⟩
  have N10 := Lib.hid (show Calls Tryd.prog 48 #[.int .u8 n.kind, .int .u8 119, .int .u64 n.who, .int .u64 15] W1 fun e w' => e = .returned (.bool t10) ∧ W1 = w' from ht10 ▸ numK n.kind 119 n.who 15 HK.out W1)
  have T10 := Lib.hid ht10.symm
  obtain ⟨t11, ht11⟩ : ∃ t, t = numB n.kind 112 (n.parts.length : Int) 4 := ⟨_, rfl⟩
  have N11 := Lib.hid (show Calls Tryd.prog 48 #[.int .u8 n.kind, .int .u8 112, .int .u64 (n.parts.length : Int), .int .u64 4] W1 fun e w' => e = .returned (.bool t11) ∧ W1 = w' from ht11 ▸ numK n.kind 112 (n.parts.length : Int) 4 HK.out W1)
  have T11 := Lib.hid ht11.symm
  obtain ⟨t12, ht12⟩ : ∃ t, t = numB n.kind 111 (n.ops.length : Int) 16 := ⟨_, rfl⟩
  have N12 := Lib.hid (show Calls Tryd.prog 48 #[.int .u8 n.kind, .int .u8 111, .int .u64 (n.ops.length : Int), .int .u64 16] W1 fun e w' => e = .returned (.bool t12) ∧ W1 = w' from ht12 ▸ numK n.kind 111 (n.ops.length : Int) 16 HK.out W1)
  have T12 := Lib.hid ht12.symm
  obtain ⟨t13, ht13⟩ : ∃ t, t = numB n.kind 118 (n.vec.length : Int) 8 := ⟨_, rfl⟩
  have N13 := Lib.hid (show Calls Tryd.prog 48 #[.int .u8 n.kind, .int .u8 118, .int .u64 (n.vec.length : Int), .int .u64 8] W1 fun e w' => e = .returned (.bool t13) ∧ W1 = w' from ht13 ▸ numK n.kind 118 (n.vec.length : Int) 8 HK.out W1)
  have T13 := Lib.hid ht13.symm
  obtain ⟨t14, ht14⟩ : ∃ t, t = numB n.kind 104 (n.hits.length : Int) 16 := ⟨_, rfl⟩
  have N14 := Lib.hid (show Calls Tryd.prog 48 #[.int .u8 n.kind, .int .u8 104, .int .u64 (n.hits.length : Int), .int .u64 16] W1 fun e w' => e = .returned (.bool t14) ∧ W1 = w' from ht14 ▸ numK n.kind 104 (n.hits.length : Int) 16 HK.out W1)
  have T14 := Lib.hid ht14.symm
  clear ht0 ht1 ht2 ht3 ht4 ht5 ht6 ht7 ht8 ht9 ht10 ht11 ht12 ht13 ht14
  have NN := Lib.hid (And.intro N0 (And.intro N1 (And.intro N2 (And.intro N3 (And.intro N4 (And.intro N5 (And.intro N6 (And.intro N7 (And.intro N8 (And.intro N9 (N10)))))))))))
  have TT := Lib.hid (And.intro T0 (And.intro T1 (And.intro T2 (And.intro T3 (And.intro T4 (And.intro T5 (And.intro T6 (And.intro T7 (And.intro T8 (And.intro T9 (T10)))))))))))
  have NM := Lib.hid (And.intro N11 (And.intro N12 (And.intro N13 (N14))))
  have TM := Lib.hid (And.intro T11 (And.intro T12 (And.intro T13 (T14))))
  have ZZ := Lib.hid (And.intro z12 (And.intro z13 (And.intro z14 z15)))
  clear N0 T0 N1 T1 N2 T2 N3 T3 N4 T4 N5 T5 N6 T6 N7 T7 N8 T8 N9 T9 N10 T10 N11 T11 N12 T12 N13 T13 N14 T14 z12 z13 z14 z15 z0
  refine region_goQ (fun a => a.tmps.size = 219 ∧ a.defers = [] ∧ tmpOf a 1 = .pointer (some ⟨W.heap.size, 0, none⟩) ∧ tmpOf a 3 = .int .u8 n.kind) (fun a => a.tmps.size = 219 ∧ a.defers = [] ∧ tmpOf a 1 = .pointer (some ⟨W.heap.size, 0, none⟩) ∧ tmpOf a 3 = .int .u8 n.kind ∧ tmpOf a 6 = .bool (numsK n)) ⟨rfl, rfl, rfl, rfl⟩ ?chain ?after
  case chain =>
    rintro a0 O Q' ⟨hs0, hd0, e1a0, e3a0⟩ hO hR
    have Fa0 : Fr a0 a0 scrR5 := Fr.refl _ _
    refine pVal 0 (.int .u8 n.kind) hO rfl (wanted_none rfl) (by simp only [execOp, eval_tmpOf, e3a0]; first | rfl | (go_simp; done) | (go_simp; simp only [tmps_get, e3a0]; go_simp)) ?_
    refine stN fun b1 hb1 => ?_
    have Fb1 := fr_s hb1 Fa0 rfl
    have e42b1 := put_s hb1 (by rw [Fa0.size, hs0]; decide)
    have e1b1 := put_o hb1 (by decide) e1a0
    have e3b1 := put_o hb1 (by decide) e3a0
    clear hb1 Fa0
    refine pVal 1 (.pointer (some ⟨W.heap.size, 1, none⟩)) hO rfl (wanted_none rfl) (by simp only [execOp, eval_tmpOf, e1b1]; first | rfl | (go_simp; done) | (go_simp; simp only [tmps_get, e1b1]; go_simp)) ?_
    refine stN fun b2 hb2 => ?_
    have Fb2 := fr_s hb2 Fb1 rfl
    have e43b2 := put_s hb2 (by rw [Fb1.size, hs0]; decide)
    have e1b2 := put_o hb2 (by decide) e1b1
    have e3b2 := put_o hb2 (by decide) e3b1
    have e42b2 := put_o hb2 (by decide) e42b1
    clear hb2 Fb1 e42b1
    refine pVal 2 (.int .u64 n.txn) hO rfl (wanted_none rfl) (by simp only [execOp, eval_tmpOf, e43b2]; first | rfl | (go_simp; done) | (go_simp; simp only [tmps_get, e43b2]; go_simp)) ?_
    refine stN fun b3 hb3 => ?_
    have Fb3 := fr_s hb3 Fb2 rfl
    have e44b3 := put_s hb3 (by rw [Fb2.size, hs0]; decide)
    have e1b3 := put_o hb3 (by decide) e1b2
    have e3b3 := put_o hb3 (by decide) e3b2
    have e42b3 := put_o hb3 (by decide) e42b2
    clear hb3 Fb2 e42b2 e43b2
    refine pCall 3 (.bool t0) (args := #[.int .u8 n.kind, .int .u8 116, .int .u64 n.txn, .int .u64 18446744073709551615]) hO rfl (wanted_none rfl) (by simp only [execOp]; go_simp; simp only [tmps_get, e42b3, e44b3, and_self]) NN.out.1.out ?_
    refine stN fun b4 hb4 => ?_
    have Fb4 := fr_s hb4 Fb3 rfl
    have e45b4 := put_s hb4 (by rw [Fb3.size, hs0]; decide)
    clear hb4 Fb3 e1b3 e3b3 e42b3 e44b3
    refine pVal 4 (.bool t0) hO rfl (wanted_none rfl) (by simp only [execOp, eval_tmpOf, e45b4]; first | rfl | (go_simp; done) | (go_simp; simp only [tmps_get, e45b4]; go_simp)) ?_
    refine stN fun b5 hb5 => ?_
    have Fb5 := fr_s hb5 Fb4 rfl
    have e46b5 := put_s hb5 (by rw [Fb4.size, hs0]; decide)
    clear hb5 Fb4 e45b4
    suffices H : ∀ a, Fr a0 a scrR5 → tmpOf a 46 = .bool t0 → wpFrom Tryd.prog O Q' 5 a W1 from H _ Fb5 e46b5
    clear Fb5 e46b5
    intro b6 Fb6 e46b6
    have e1b6 : tmpOf b6 1 = .pointer (some ⟨W.heap.size, 0, none⟩) := (Fb6.agree 1 (by decide)).trans e1a0
    have e3b6 : tmpOf b6 3 = .int .u8 n.kind := (Fb6.agree 3 (by decide)).trans e3a0
    suffices H : ∀ a, Fr a0 a scrR5 → tmpOf a 52 = .bool (t0 && t1) → wpFrom Tryd.prog O Q' 11 a W1 by
      cases t0
      · skip
        refine pSkip 5 hO rfl ((wanted_if (g := 4) (m := 46) (c := false) rfl rfl (by rw [Fb6.size, hs0]; decide) e46b6).trans rfl) ?_
        refine stN fun b7 hb7 => ?_
        have Fb7 := fr_s hb7 Fb6 rfl
        have e1b7 := put_o hb7 (by decide) e1b6
        have e46b7 := put_o hb7 (by decide) e46b6
        clear hb7 Fb6 e46b6
        refine pSkip 6 hO rfl ((wanted_if (g := 4) (m := 46) (c := false) rfl rfl (by rw [Fb7.size, hs0]; decide) e46b7).trans rfl) ?_
        refine stN fun b8 hb8 => ?_
        have Fb8 := fr_s hb8 Fb7 rfl
        have e1b8 := put_o hb8 (by decide) e1b7
        have e46b8 := put_o hb8 (by decide) e46b7
        clear hb8 Fb7 e46b7
        refine pSkip 7 hO rfl ((wanted_if (g := 4) (m := 46) (c := false) rfl rfl (by rw [Fb8.size, hs0]; decide) e46b8).trans rfl) ?_
        refine stN fun b9 hb9 => ?_
        have Fb9 := fr_s hb9 Fb8 rfl
        have e1b9 := put_o hb9 (by decide) e1b8
        have e46b9 := put_o hb9 (by decide) e46b8
        clear hb9 Fb8 e46b8
        refine pSkip 8 hO rfl ((wanted_if (g := 4) (m := 46) (c := false) rfl rfl (by rw [Fb9.size, hs0]; decide) e46b9).trans rfl) ?_
        refine stN fun b10 hb10 => ?_
        have Fb10 := fr_s hb10 Fb9 rfl
        have e50b10 := put_s hb10 (by rw [Fb9.size, hs0]; decide)
        have e1b10 := put_o hb10 (by decide) e1b9
        have e46b10 := put_o hb10 (by decide) e46b9
        clear hb10 Fb9 e46b9
        refine pVal 9 (.bool false) hO rfl (wanted_none rfl) (by simp only [execOp, eval_tmpOf, eval_const, e46b10, e50b10]; first | rfl | (go_simp; done) | (go_simp; simp only [tmps_get, e46b10, e50b10]; go_simp)) ?_
        refine stN fun b11 hb11 => ?_
        have Fb11 := fr_s hb11 Fb10 rfl
        have e51b11 := put_s hb11 (by rw [Fb10.size, hs0]; decide)
        have e1b11 := put_o hb11 (by decide) e1b10
        clear hb11 Fb10 e46b10 e50b10
        refine pVal 10 (.bool false) hO rfl (wanted_none rfl) (by simp only [execOp, eval_tmpOf, e51b11]; first | rfl | (go_simp; done) | (go_simp; simp only [tmps_get, e51b11]; go_simp)) ?_
        refine stN fun b12 hb12 => ?_
        have Fb12 := fr_s hb12 Fb11 rfl
        have e52b12 := put_s hb12 (by rw [Fb11.size, hs0]; decide)
        have e1b12 := put_o hb12 (by decide) e1b11
        clear hb12 Fb11 e51b11
        exact H _ Fb12 e52b12
      · skip
        refine pVal 5 (.int .u8 n.kind) hO rfl ((wanted_if (g := 4) (m := 46) (c := true) rfl rfl (by rw [Fb6.size, hs0]; decide) e46b6).trans rfl) (by simp only [execOp, eval_tmpOf, e3b6]; first | rfl | (go_simp; done) | (go_simp; simp only [tmps_get, e3b6]; go_simp)) ?_
        refine stN fun b13 hb13 => ?_
        have Fb13 := fr_s hb13 Fb6 rfl
        have e47b13 := put_s hb13 (by rw [Fb6.size, hs0]; decide)
        have e1b13 := put_o hb13 (by decide) e1b6
        have e46b13 := put_o hb13 (by decide) e46b6
        clear hb13 Fb6 e46b6
        refine pVal 6 (.pointer (some ⟨W.heap.size, 2, none⟩)) hO rfl ((wanted_if (g := 4) (m := 46) (c := true) rfl rfl (by rw [Fb13.size, hs0]; decide) e46b13).trans rfl) (by simp only [execOp, eval_tmpOf, e1b13]; first | rfl | (go_simp; done) | (go_simp; simp only [tmps_get, e1b13]; go_simp)) ?_
        refine stN fun b14 hb14 => ?_
        have Fb14 := fr_s hb14 Fb13 rfl
        have e48b14 := put_s hb14 (by rw [Fb13.size, hs0]; decide)
        have e46b14 := put_o hb14 (by decide) e46b13
        have e47b14 := put_o hb14 (by decide) e47b13
        clear hb14 Fb13 e46b13 e47b13
        refine pVal 7 (.int .u64 n.batch) hO rfl ((wanted_if (g := 4) (m := 46) (c := true) rfl rfl (by rw [Fb14.size, hs0]; decide) e46b14).trans rfl) (by simp only [execOp, eval_tmpOf, e48b14]; first | rfl | (go_simp; done) | (go_simp; simp only [tmps_get, e48b14]; go_simp)) ?_
        refine stN fun b15 hb15 => ?_
        have Fb15 := fr_s hb15 Fb14 rfl
        have e49b15 := put_s hb15 (by rw [Fb14.size, hs0]; decide)
        have e46b15 := put_o hb15 (by decide) e46b14
        have e47b15 := put_o hb15 (by decide) e47b14
        clear hb15 Fb14 e46b14 e47b14 e48b14
        refine pCall 8 (.bool t1) (args := #[.int .u8 n.kind, .int .u8 98, .int .u64 n.batch, .int .u64 18446744073709551615]) hO rfl ((wanted_if (g := 4) (m := 46) (c := true) rfl rfl (by rw [Fb15.size, hs0]; decide) e46b15).trans rfl) (by simp only [execOp]; go_simp; simp only [tmps_get, e47b15, e49b15, and_self]) NN.out.2.1.out ?_
        refine stN fun b16 hb16 => ?_
        have Fb16 := fr_s hb16 Fb15 rfl
        have e50b16 := put_s hb16 (by rw [Fb15.size, hs0]; decide)
        have e46b16 := put_o hb16 (by decide) e46b15
        clear hb16 Fb15 e46b15 e47b15 e49b15
        refine pVal 9 (.bool t1) hO rfl (wanted_none rfl) (by simp only [execOp, eval_tmpOf, eval_const, e46b16, e50b16]; first | rfl | (go_simp; done) | (go_simp; simp only [tmps_get, e46b16, e50b16]; go_simp)) ?_
        refine stN fun b17 hb17 => ?_
        have Fb17 := fr_s hb17 Fb16 rfl
        have e51b17 := put_s hb17 (by rw [Fb16.size, hs0]; decide)
        clear hb17 Fb16 e46b16 e50b16
        refine pVal 10 (.bool t1) hO rfl (wanted_none rfl) (by simp only [execOp, eval_tmpOf, e51b17]; first | rfl | (go_simp; done) | (go_simp; simp only [tmps_get, e51b17]; go_simp)) ?_
        refine stN fun b18 hb18 => ?_
        have Fb18 := fr_s hb18 Fb17 rfl
        have e52b18 := put_s hb18 (by rw [Fb17.size, hs0]; decide)
        clear hb18 Fb17 e51b17
        exact H _ Fb18 e52b18
    clear Fb6 e46b6
    intro b19 Fb19 e52b19
    have e1b19 : tmpOf b19 1 = .pointer (some ⟨W.heap.size, 0, none⟩) := (Fb19.agree 1 (by decide)).trans e1a0
    have e3b19 : tmpOf b19 3 = .int .u8 n.kind := (Fb19.agree 3 (by decide)).trans e3a0
    obtain ⟨c1, hc1⟩ : ∃ x, x = (t0 && t1) := ⟨_, rfl⟩
    rw [← hc1] at e52b19
    have Hc1 := Lib.hid hc1
    clear hc1
    suffices H : ∀ a, Fr a0 a scrR5 → tmpOf a 58 = .bool (c1 && t2) → wpFrom Tryd.prog O Q' 17 a W1 by
      cases c1
      · skip
        refine pSkip 11 hO rfl ((wanted_if (g := 10) (m := 52) (c := false) rfl rfl (by rw [Fb19.size, hs0]; decide) e52b19).trans rfl) ?_
        refine stN fun b20 hb20 => ?_
        have Fb20 := fr_s hb20 Fb19 rfl
        have e1b20 := put_o hb20 (by decide) e1b19
        have e3b20 := put_o hb20 (by decide) e3b19
        have e52b20 := put_o hb20 (by decide) e52b19
        clear hb20 Fb19 e52b19
        refine pSkip 12 hO rfl ((wanted_if (g := 10) (m := 52) (c := false) rfl rfl (by rw [Fb20.size, hs0]; decide) e52b20).trans rfl) ?_
        refine stN fun b21 hb21 => ?_
        have Fb21 := fr_s hb21 Fb20 rfl
        have e52b21 := put_o hb21 (by decide) e52b20
        clear hb21 Fb20 e1b20 e3b20 e52b20
        refine pSkip 13 hO rfl ((wanted_if (g := 10) (m := 52) (c := false) rfl rfl (by rw [Fb21.size, hs0]; decide) e52b21).trans rfl) ?_
        refine stN fun b22 hb22 => ?_
        have Fb22 := fr_s hb22 Fb21 rfl
        have e52b22 := put_o hb22 (by decide) e52b21
        clear hb22 Fb21 e52b21
        refine pSkip 14 hO rfl ((wanted_if (g := 10) (m := 52) (c := false) rfl rfl (by rw [Fb22.size, hs0]; decide) e52b22).trans rfl) ?_
        refine stN fun b23 hb23 => ?_
        have Fb23 := fr_s hb23 Fb22 rfl
        have e56b23 := put_s hb23 (by rw [Fb22.size, hs0]; decide)
        have e52b23 := put_o hb23 (by decide) e52b22
        clear hb23 Fb22 e52b22
        refine pVal 15 (.bool false) hO rfl (wanted_none rfl) (by simp only [execOp, eval_tmpOf, eval_const, e52b23, e56b23]; first | rfl | (go_simp; done) | (go_simp; simp only [tmps_get, e52b23, e56b23]; go_simp)) ?_
        refine stN fun b24 hb24 => ?_
        have Fb24 := fr_s hb24 Fb23 rfl
        have e57b24 := put_s hb24 (by rw [Fb23.size, hs0]; decide)
        clear hb24 Fb23 e52b23 e56b23
        refine pVal 16 (.bool false) hO rfl (wanted_none rfl) (by simp only [execOp, eval_tmpOf, e57b24]; first | rfl | (go_simp; done) | (go_simp; simp only [tmps_get, e57b24]; go_simp)) ?_
        refine stN fun b25 hb25 => ?_
        have Fb25 := fr_s hb25 Fb24 rfl
        have e58b25 := put_s hb25 (by rw [Fb24.size, hs0]; decide)
        clear hb25 Fb24 e57b24
        exact H _ Fb25 e58b25
      · skip
        refine pVal 11 (.int .u8 n.kind) hO rfl ((wanted_if (g := 10) (m := 52) (c := true) rfl rfl (by rw [Fb19.size, hs0]; decide) e52b19).trans rfl) (by simp only [execOp, eval_tmpOf, e3b19]; first | rfl | (go_simp; done) | (go_simp; simp only [tmps_get, e3b19]; go_simp)) ?_
        refine stN fun b26 hb26 => ?_
        have Fb26 := fr_s hb26 Fb19 rfl
        have e53b26 := put_s hb26 (by rw [Fb19.size, hs0]; decide)
        have e1b26 := put_o hb26 (by decide) e1b19
        have e52b26 := put_o hb26 (by decide) e52b19
        clear hb26 Fb19 e52b19
        refine pVal 12 (.pointer (some ⟨W.heap.size, 3, none⟩)) hO rfl ((wanted_if (g := 10) (m := 52) (c := true) rfl rfl (by rw [Fb26.size, hs0]; decide) e52b26).trans rfl) (by simp only [execOp, eval_tmpOf, e1b26]; first | rfl | (go_simp; done) | (go_simp; simp only [tmps_get, e1b26]; go_simp)) ?_
        refine stN fun b27 hb27 => ?_
        have Fb27 := fr_s hb27 Fb26 rfl
        have e54b27 := put_s hb27 (by rw [Fb26.size, hs0]; decide)
        have e1b27 := put_o hb27 (by decide) e1b26
        have e52b27 := put_o hb27 (by decide) e52b26
        have e53b27 := put_o hb27 (by decide) e53b26
        clear hb27 Fb26 e52b26 e53b26
        refine pVal 13 (.int .u64 n.stamp) hO rfl ((wanted_if (g := 10) (m := 52) (c := true) rfl rfl (by rw [Fb27.size, hs0]; decide) e52b27).trans rfl) (by simp only [execOp, eval_tmpOf, e54b27]; first | rfl | (go_simp; done) | (go_simp; simp only [tmps_get, e54b27]; go_simp)) ?_
        refine stN fun b28 hb28 => ?_
        have Fb28 := fr_s hb28 Fb27 rfl
        have e55b28 := put_s hb28 (by rw [Fb27.size, hs0]; decide)
        have e1b28 := put_o hb28 (by decide) e1b27
        have e52b28 := put_o hb28 (by decide) e52b27
        have e53b28 := put_o hb28 (by decide) e53b27
        clear hb28 Fb27 e52b27 e53b27 e54b27
        refine pCall 14 (.bool t2) (args := #[.int .u8 n.kind, .int .u8 115, .int .u64 n.stamp, .int .u64 1099511627776]) hO rfl ((wanted_if (g := 10) (m := 52) (c := true) rfl rfl (by rw [Fb28.size, hs0]; decide) e52b28).trans rfl) (by simp only [execOp]; go_simp; simp only [tmps_get, e53b28, e55b28, and_self]) NN.out.2.2.1.out ?_
        refine stN fun b29 hb29 => ?_
        have Fb29 := fr_s hb29 Fb28 rfl
        have e56b29 := put_s hb29 (by rw [Fb28.size, hs0]; decide)
        have e1b29 := put_o hb29 (by decide) e1b28
        have e52b29 := put_o hb29 (by decide) e52b28
        clear hb29 Fb28 e52b28 e53b28 e55b28
        refine pVal 15 (.bool t2) hO rfl (wanted_none rfl) (by simp only [execOp, eval_tmpOf, eval_const, e52b29, e56b29]; first | rfl | (go_simp; done) | (go_simp; simp only [tmps_get, e52b29, e56b29]; go_simp)) ?_
        refine stN fun b30 hb30 => ?_
        have Fb30 := fr_s hb30 Fb29 rfl
        have e57b30 := put_s hb30 (by rw [Fb29.size, hs0]; decide)
        clear hb30 Fb29 e1b29 e52b29 e56b29
        refine pVal 16 (.bool t2) hO rfl (wanted_none rfl) (by simp only [execOp, eval_tmpOf, e57b30]; first | rfl | (go_simp; done) | (go_simp; simp only [tmps_get, e57b30]; go_simp)) ?_
        refine stN fun b31 hb31 => ?_
        have Fb31 := fr_s hb31 Fb30 rfl
        have e58b31 := put_s hb31 (by rw [Fb30.size, hs0]; decide)
        clear hb31 Fb30 e57b30
        exact H _ Fb31 e58b31
    clear Fb19 e52b19
    intro b32 Fb32 e58b32
    have e1b32 : tmpOf b32 1 = .pointer (some ⟨W.heap.size, 0, none⟩) := (Fb32.agree 1 (by decide)).trans e1a0
    have e3b32 : tmpOf b32 3 = .int .u8 n.kind := (Fb32.agree 3 (by decide)).trans e3a0
    obtain ⟨c2, hc2⟩ : ∃ x, x = (c1 && t2) := ⟨_, rfl⟩
    rw [← hc2] at e58b32
    have Hc2 := Lib.hid hc2
    clear hc2
    suffices H : ∀ a, Fr a0 a scrR5 → tmpOf a 64 = .bool (c2 && t3) → wpFrom Tryd.prog O Q' 23 a W1 by
      cases c2
      · skip
        refine pSkip 17 hO rfl ((wanted_if (g := 16) (m := 58) (c := false) rfl rfl (by rw [Fb32.size, hs0]; decide) e58b32).trans rfl) ?_
        refine stN fun b33 hb33 => ?_
        have Fb33 := fr_s hb33 Fb32 rfl
        have e1b33 := put_o hb33 (by decide) e1b32
        have e3b33 := put_o hb33 (by decide) e3b32
        have e58b33 := put_o hb33 (by decide) e58b32
        clear hb33 Fb32 e58b32
        refine pSkip 18 hO rfl ((wanted_if (g := 16) (m := 58) (c := false) rfl rfl (by rw [Fb33.size, hs0]; decide) e58b33).trans rfl) ?_
        refine stN fun b34 hb34 => ?_
        have Fb34 := fr_s hb34 Fb33 rfl
        have e1b34 := put_o hb34 (by decide) e1b33
        have e3b34 := put_o hb34 (by decide) e3b33
        have e58b34 := put_o hb34 (by decide) e58b33
        clear hb34 Fb33 e58b33
        refine pSkip 19 hO rfl ((wanted_if (g := 16) (m := 58) (c := false) rfl rfl (by rw [Fb34.size, hs0]; decide) e58b34).trans rfl) ?_
        refine stN fun b35 hb35 => ?_
        have Fb35 := fr_s hb35 Fb34 rfl
        have e1b35 := put_o hb35 (by decide) e1b34
        have e3b35 := put_o hb35 (by decide) e3b34
        have e58b35 := put_o hb35 (by decide) e58b34
        clear hb35 Fb34 e58b34
        refine pSkip 20 hO rfl ((wanted_if (g := 16) (m := 58) (c := false) rfl rfl (by rw [Fb35.size, hs0]; decide) e58b35).trans rfl) ?_
        refine stN fun b36 hb36 => ?_
        have Fb36 := fr_s hb36 Fb35 rfl
        have e62b36 := put_s hb36 (by rw [Fb35.size, hs0]; decide)
        have e1b36 := put_o hb36 (by decide) e1b35
        have e3b36 := put_o hb36 (by decide) e3b35
        have e58b36 := put_o hb36 (by decide) e58b35
        clear hb36 Fb35 e58b35
        refine pVal 21 (.bool false) hO rfl (wanted_none rfl) (by simp only [execOp, eval_tmpOf, eval_const, e58b36, e62b36]; first | rfl | (go_simp; done) | (go_simp; simp only [tmps_get, e58b36, e62b36]; go_simp)) ?_
        refine stN fun b37 hb37 => ?_
        have Fb37 := fr_s hb37 Fb36 rfl
        have e63b37 := put_s hb37 (by rw [Fb36.size, hs0]; decide)
        have e1b37 := put_o hb37 (by decide) e1b36
        have e3b37 := put_o hb37 (by decide) e3b36
        clear hb37 Fb36 e58b36 e62b36
        refine pVal 22 (.bool false) hO rfl (wanted_none rfl) (by simp only [execOp, eval_tmpOf, e63b37]; first | rfl | (go_simp; done) | (go_simp; simp only [tmps_get, e63b37]; go_simp)) ?_
        refine stN fun b38 hb38 => ?_
        have Fb38 := fr_s hb38 Fb37 rfl
        have e64b38 := put_s hb38 (by rw [Fb37.size, hs0]; decide)
        clear hb38 Fb37 e1b37 e3b37 e63b37
        exact H _ Fb38 e64b38
      · skip
        refine pVal 17 (.int .u8 n.kind) hO rfl ((wanted_if (g := 16) (m := 58) (c := true) rfl rfl (by rw [Fb32.size, hs0]; decide) e58b32).trans rfl) (by simp only [execOp, eval_tmpOf, e3b32]; first | rfl | (go_simp; done) | (go_simp; simp only [tmps_get, e3b32]; go_simp)) ?_
        refine stN fun b39 hb39 => ?_
        have Fb39 := fr_s hb39 Fb32 rfl
        have e59b39 := put_s hb39 (by rw [Fb32.size, hs0]; decide)
        have e1b39 := put_o hb39 (by decide) e1b32
        have e58b39 := put_o hb39 (by decide) e58b32
        clear hb39 Fb32 e58b32
        refine pVal 18 (.pointer (some ⟨W.heap.size, 4, none⟩)) hO rfl ((wanted_if (g := 16) (m := 58) (c := true) rfl rfl (by rw [Fb39.size, hs0]; decide) e58b39).trans rfl) (by simp only [execOp, eval_tmpOf, e1b39]; first | rfl | (go_simp; done) | (go_simp; simp only [tmps_get, e1b39]; go_simp)) ?_
        refine stN fun b40 hb40 => ?_
        have Fb40 := fr_s hb40 Fb39 rfl
        have e60b40 := put_s hb40 (by rw [Fb39.size, hs0]; decide)
        have e58b40 := put_o hb40 (by decide) e58b39
        have e59b40 := put_o hb40 (by decide) e59b39
        clear hb40 Fb39 e58b39 e59b39
        refine pVal 19 (.int .u64 n.after) hO rfl ((wanted_if (g := 16) (m := 58) (c := true) rfl rfl (by rw [Fb40.size, hs0]; decide) e58b40).trans rfl) (by simp only [execOp, eval_tmpOf, e60b40]; first | rfl | (go_simp; done) | (go_simp; simp only [tmps_get, e60b40]; go_simp)) ?_
        refine stN fun b41 hb41 => ?_
        have Fb41 := fr_s hb41 Fb40 rfl
        have e61b41 := put_s hb41 (by rw [Fb40.size, hs0]; decide)
        have e58b41 := put_o hb41 (by decide) e58b40
        have e59b41 := put_o hb41 (by decide) e59b40
        clear hb41 Fb40 e58b40 e59b40 e60b40
        refine pCall 20 (.bool t3) (args := #[.int .u8 n.kind, .int .u8 97, .int .u64 n.after, .int .u64 1099511627776]) hO rfl ((wanted_if (g := 16) (m := 58) (c := true) rfl rfl (by rw [Fb41.size, hs0]; decide) e58b41).trans rfl) (by simp only [execOp]; go_simp; simp only [tmps_get, e59b41, e61b41, and_self]) NN.out.2.2.2.1.out ?_
        refine stN fun b42 hb42 => ?_
        have Fb42 := fr_s hb42 Fb41 rfl
        have e62b42 := put_s hb42 (by rw [Fb41.size, hs0]; decide)
        have e58b42 := put_o hb42 (by decide) e58b41
        clear hb42 Fb41 e58b41 e59b41 e61b41
        refine pVal 21 (.bool t3) hO rfl (wanted_none rfl) (by simp only [execOp, eval_tmpOf, eval_const, e58b42, e62b42]; first | rfl | (go_simp; done) | (go_simp; simp only [tmps_get, e58b42, e62b42]; go_simp)) ?_
        refine stN fun b43 hb43 => ?_
        have Fb43 := fr_s hb43 Fb42 rfl
        have e63b43 := put_s hb43 (by rw [Fb42.size, hs0]; decide)
        clear hb43 Fb42 e58b42 e62b42
        refine pVal 22 (.bool t3) hO rfl (wanted_none rfl) (by simp only [execOp, eval_tmpOf, e63b43]; first | rfl | (go_simp; done) | (go_simp; simp only [tmps_get, e63b43]; go_simp)) ?_
        refine stN fun b44 hb44 => ?_
        have Fb44 := fr_s hb44 Fb43 rfl
        have e64b44 := put_s hb44 (by rw [Fb43.size, hs0]; decide)
        clear hb44 Fb43 e63b43
        exact H _ Fb44 e64b44
    clear Fb32 e58b32
    intro b45 Fb45 e64b45
    have e1b45 : tmpOf b45 1 = .pointer (some ⟨W.heap.size, 0, none⟩) := (Fb45.agree 1 (by decide)).trans e1a0
    have e3b45 : tmpOf b45 3 = .int .u8 n.kind := (Fb45.agree 3 (by decide)).trans e3a0
    obtain ⟨c3, hc3⟩ : ∃ x, x = (c2 && t3) := ⟨_, rfl⟩
    rw [← hc3] at e64b45
    have Hc3 := Lib.hid hc3
    clear hc3
    suffices H : ∀ a, Fr a0 a scrR5 → tmpOf a 70 = .bool (c3 && t4) → wpFrom Tryd.prog O Q' 29 a W1 by
      cases c3
      · skip
        refine pSkip 23 hO rfl ((wanted_if (g := 22) (m := 64) (c := false) rfl rfl (by rw [Fb45.size, hs0]; decide) e64b45).trans rfl) ?_
        refine stN fun b46 hb46 => ?_
        have Fb46 := fr_s hb46 Fb45 rfl
        have e1b46 := put_o hb46 (by decide) e1b45
        have e64b46 := put_o hb46 (by decide) e64b45
        clear hb46 Fb45 e64b45
        refine pSkip 24 hO rfl ((wanted_if (g := 22) (m := 64) (c := false) rfl rfl (by rw [Fb46.size, hs0]; decide) e64b46).trans rfl) ?_
        refine stN fun b47 hb47 => ?_
        have Fb47 := fr_s hb47 Fb46 rfl
        have e64b47 := put_o hb47 (by decide) e64b46
        clear hb47 Fb46 e1b46 e64b46
        refine pSkip 25 hO rfl ((wanted_if (g := 22) (m := 64) (c := false) rfl rfl (by rw [Fb47.size, hs0]; decide) e64b47).trans rfl) ?_
        refine stN fun b48 hb48 => ?_
        have Fb48 := fr_s hb48 Fb47 rfl
        have e64b48 := put_o hb48 (by decide) e64b47
        clear hb48 Fb47 e64b47
        refine pSkip 26 hO rfl ((wanted_if (g := 22) (m := 64) (c := false) rfl rfl (by rw [Fb48.size, hs0]; decide) e64b48).trans rfl) ?_
        refine stN fun b49 hb49 => ?_
        have Fb49 := fr_s hb49 Fb48 rfl
        have e68b49 := put_s hb49 (by rw [Fb48.size, hs0]; decide)
        have e64b49 := put_o hb49 (by decide) e64b48
        clear hb49 Fb48 e64b48
        refine pVal 27 (.bool false) hO rfl (wanted_none rfl) (by simp only [execOp, eval_tmpOf, eval_const, e64b49, e68b49]; first | rfl | (go_simp; done) | (go_simp; simp only [tmps_get, e64b49, e68b49]; go_simp)) ?_
        refine stN fun b50 hb50 => ?_
        have Fb50 := fr_s hb50 Fb49 rfl
        have e69b50 := put_s hb50 (by rw [Fb49.size, hs0]; decide)
        clear hb50 Fb49 e64b49 e68b49
        refine pVal 28 (.bool false) hO rfl (wanted_none rfl) (by simp only [execOp, eval_tmpOf, e69b50]; first | rfl | (go_simp; done) | (go_simp; simp only [tmps_get, e69b50]; go_simp)) ?_
        refine stN fun b51 hb51 => ?_
        have Fb51 := fr_s hb51 Fb50 rfl
        have e70b51 := put_s hb51 (by rw [Fb50.size, hs0]; decide)
        clear hb51 Fb50 e69b50
        exact H _ Fb51 e70b51
      · skip
        refine pVal 23 (.int .u8 n.kind) hO rfl ((wanted_if (g := 22) (m := 64) (c := true) rfl rfl (by rw [Fb45.size, hs0]; decide) e64b45).trans rfl) (by simp only [execOp, eval_tmpOf, e3b45]; first | rfl | (go_simp; done) | (go_simp; simp only [tmps_get, e3b45]; go_simp)) ?_
        refine stN fun b52 hb52 => ?_
        have Fb52 := fr_s hb52 Fb45 rfl
        have e65b52 := put_s hb52 (by rw [Fb45.size, hs0]; decide)
        have e1b52 := put_o hb52 (by decide) e1b45
        have e3b52 := put_o hb52 (by decide) e3b45
        have e64b52 := put_o hb52 (by decide) e64b45
        clear hb52 Fb45 e64b45
        refine pVal 24 (.pointer (some ⟨W.heap.size, 5, none⟩)) hO rfl ((wanted_if (g := 22) (m := 64) (c := true) rfl rfl (by rw [Fb52.size, hs0]; decide) e64b52).trans rfl) (by simp only [execOp, eval_tmpOf, e1b52]; first | rfl | (go_simp; done) | (go_simp; simp only [tmps_get, e1b52]; go_simp)) ?_
        refine stN fun b53 hb53 => ?_
        have Fb53 := fr_s hb53 Fb52 rfl
        have e66b53 := put_s hb53 (by rw [Fb52.size, hs0]; decide)
        have e1b53 := put_o hb53 (by decide) e1b52
        have e3b53 := put_o hb53 (by decide) e3b52
        have e64b53 := put_o hb53 (by decide) e64b52
        have e65b53 := put_o hb53 (by decide) e65b52
        clear hb53 Fb52 e64b52 e65b52
        refine pVal 25 (.int .u64 n.mark) hO rfl ((wanted_if (g := 22) (m := 64) (c := true) rfl rfl (by rw [Fb53.size, hs0]; decide) e64b53).trans rfl) (by simp only [execOp, eval_tmpOf, e66b53]; first | rfl | (go_simp; done) | (go_simp; simp only [tmps_get, e66b53]; go_simp)) ?_
        refine stN fun b54 hb54 => ?_
        have Fb54 := fr_s hb54 Fb53 rfl
        have e67b54 := put_s hb54 (by rw [Fb53.size, hs0]; decide)
        have e1b54 := put_o hb54 (by decide) e1b53
        have e3b54 := put_o hb54 (by decide) e3b53
        have e64b54 := put_o hb54 (by decide) e64b53
        have e65b54 := put_o hb54 (by decide) e65b53
        clear hb54 Fb53 e64b53 e65b53 e66b53
        refine pCall 26 (.bool t4) (args := #[.int .u8 n.kind, .int .u8 109, .int .u64 n.mark, .int .u64 1099511627776]) hO rfl ((wanted_if (g := 22) (m := 64) (c := true) rfl rfl (by rw [Fb54.size, hs0]; decide) e64b54).trans rfl) (by simp only [execOp]; go_simp; simp only [tmps_get, e65b54, e67b54, and_self]) NN.out.2.2.2.2.1.out ?_
        refine stN fun b55 hb55 => ?_
        have Fb55 := fr_s hb55 Fb54 rfl
        have e68b55 := put_s hb55 (by rw [Fb54.size, hs0]; decide)
        have e64b55 := put_o hb55 (by decide) e64b54
        clear hb55 Fb54 e1b54 e3b54 e64b54 e65b54 e67b54
        refine pVal 27 (.bool t4) hO rfl (wanted_none rfl) (by simp only [execOp, eval_tmpOf, eval_const, e64b55, e68b55]; first | rfl | (go_simp; done) | (go_simp; simp only [tmps_get, e64b55, e68b55]; go_simp)) ?_
        refine stN fun b56 hb56 => ?_
        have Fb56 := fr_s hb56 Fb55 rfl
        have e69b56 := put_s hb56 (by rw [Fb55.size, hs0]; decide)
        clear hb56 Fb55 e64b55 e68b55
        refine pVal 28 (.bool t4) hO rfl (wanted_none rfl) (by simp only [execOp, eval_tmpOf, e69b56]; first | rfl | (go_simp; done) | (go_simp; simp only [tmps_get, e69b56]; go_simp)) ?_
        refine stN fun b57 hb57 => ?_
        have Fb57 := fr_s hb57 Fb56 rfl
        have e70b57 := put_s hb57 (by rw [Fb56.size, hs0]; decide)
        clear hb57 Fb56 e69b56
        exact H _ Fb57 e70b57
    clear Fb45 e64b45
    intro b58 Fb58 e70b58
    have e1b58 : tmpOf b58 1 = .pointer (some ⟨W.heap.size, 0, none⟩) := (Fb58.agree 1 (by decide)).trans e1a0
    have e3b58 : tmpOf b58 3 = .int .u8 n.kind := (Fb58.agree 3 (by decide)).trans e3a0
    obtain ⟨c4, hc4⟩ : ∃ x, x = (c3 && t4) := ⟨_, rfl⟩
    rw [← hc4] at e70b58
    have Hc4 := Lib.hid hc4
    clear hc4
    suffices H : ∀ a, Fr a0 a scrR5 → tmpOf a 76 = .bool (c4 && t5) → wpFrom Tryd.prog O Q' 35 a W1 by
      cases c4
      · skip
        refine pSkip 29 hO rfl ((wanted_if (g := 28) (m := 70) (c := false) rfl rfl (by rw [Fb58.size, hs0]; decide) e70b58).trans rfl) ?_
        refine stN fun b59 hb59 => ?_
        have Fb59 := fr_s hb59 Fb58 rfl
        have e1b59 := put_o hb59 (by decide) e1b58
        have e70b59 := put_o hb59 (by decide) e70b58
        clear hb59 Fb58 e70b58
        refine pSkip 30 hO rfl ((wanted_if (g := 28) (m := 70) (c := false) rfl rfl (by rw [Fb59.size, hs0]; decide) e70b59).trans rfl) ?_
        refine stN fun b60 hb60 => ?_
        have Fb60 := fr_s hb60 Fb59 rfl
        have e1b60 := put_o hb60 (by decide) e1b59
        have e70b60 := put_o hb60 (by decide) e70b59
        clear hb60 Fb59 e70b59
        refine pSkip 31 hO rfl ((wanted_if (g := 28) (m := 70) (c := false) rfl rfl (by rw [Fb60.size, hs0]; decide) e70b60).trans rfl) ?_
        refine stN fun b61 hb61 => ?_
        have Fb61 := fr_s hb61 Fb60 rfl
        have e1b61 := put_o hb61 (by decide) e1b60
        have e70b61 := put_o hb61 (by decide) e70b60
        clear hb61 Fb60 e70b60
        refine pSkip 32 hO rfl ((wanted_if (g := 28) (m := 70) (c := false) rfl rfl (by rw [Fb61.size, hs0]; decide) e70b61).trans rfl) ?_
        refine stN fun b62 hb62 => ?_
        have Fb62 := fr_s hb62 Fb61 rfl
        have e74b62 := put_s hb62 (by rw [Fb61.size, hs0]; decide)
        have e1b62 := put_o hb62 (by decide) e1b61
        have e70b62 := put_o hb62 (by decide) e70b61
        clear hb62 Fb61 e70b61
        refine pVal 33 (.bool false) hO rfl (wanted_none rfl) (by simp only [execOp, eval_tmpOf, eval_const, e70b62, e74b62]; first | rfl | (go_simp; done) | (go_simp; simp only [tmps_get, e70b62, e74b62]; go_simp)) ?_
        refine stN fun b63 hb63 => ?_
        have Fb63 := fr_s hb63 Fb62 rfl
        have e75b63 := put_s hb63 (by rw [Fb62.size, hs0]; decide)
        have e1b63 := put_o hb63 (by decide) e1b62
        clear hb63 Fb62 e70b62 e74b62
        refine pVal 34 (.bool false) hO rfl (wanted_none rfl) (by simp only [execOp, eval_tmpOf, e75b63]; first | rfl | (go_simp; done) | (go_simp; simp only [tmps_get, e75b63]; go_simp)) ?_
        refine stN fun b64 hb64 => ?_
        have Fb64 := fr_s hb64 Fb63 rfl
        have e76b64 := put_s hb64 (by rw [Fb63.size, hs0]; decide)
        clear hb64 Fb63 e1b63 e75b63
        exact H _ Fb64 e76b64
      · skip
        refine pVal 29 (.int .u8 n.kind) hO rfl ((wanted_if (g := 28) (m := 70) (c := true) rfl rfl (by rw [Fb58.size, hs0]; decide) e70b58).trans rfl) (by simp only [execOp, eval_tmpOf, e3b58]; first | rfl | (go_simp; done) | (go_simp; simp only [tmps_get, e3b58]; go_simp)) ?_
        refine stN fun b65 hb65 => ?_
        have Fb65 := fr_s hb65 Fb58 rfl
        have e71b65 := put_s hb65 (by rw [Fb58.size, hs0]; decide)
        have e1b65 := put_o hb65 (by decide) e1b58
        have e70b65 := put_o hb65 (by decide) e70b58
        clear hb65 Fb58 e70b58
        refine pVal 30 (.pointer (some ⟨W.heap.size, 6, none⟩)) hO rfl ((wanted_if (g := 28) (m := 70) (c := true) rfl rfl (by rw [Fb65.size, hs0]; decide) e70b65).trans rfl) (by simp only [execOp, eval_tmpOf, e1b65]; first | rfl | (go_simp; done) | (go_simp; simp only [tmps_get, e1b65]; go_simp)) ?_
        refine stN fun b66 hb66 => ?_
        have Fb66 := fr_s hb66 Fb65 rfl
        have e72b66 := put_s hb66 (by rw [Fb65.size, hs0]; decide)
        have e70b66 := put_o hb66 (by decide) e70b65
        have e71b66 := put_o hb66 (by decide) e71b65
        clear hb66 Fb65 e70b65 e71b65
        refine pVal 31 (.int .u64 n.query) hO rfl ((wanted_if (g := 28) (m := 70) (c := true) rfl rfl (by rw [Fb66.size, hs0]; decide) e70b66).trans rfl) (by simp only [execOp, eval_tmpOf, e72b66]; first | rfl | (go_simp; done) | (go_simp; simp only [tmps_get, e72b66]; go_simp)) ?_
        refine stN fun b67 hb67 => ?_
        have Fb67 := fr_s hb67 Fb66 rfl
        have e73b67 := put_s hb67 (by rw [Fb66.size, hs0]; decide)
        have e70b67 := put_o hb67 (by decide) e70b66
        have e71b67 := put_o hb67 (by decide) e71b66
        clear hb67 Fb66 e70b66 e71b66 e72b66
        refine pCall 32 (.bool t5) (args := #[.int .u8 n.kind, .int .u8 113, .int .u64 n.query, .int .u64 18446744073709551615]) hO rfl ((wanted_if (g := 28) (m := 70) (c := true) rfl rfl (by rw [Fb67.size, hs0]; decide) e70b67).trans rfl) (by simp only [execOp]; go_simp; simp only [tmps_get, e71b67, e73b67, and_self]) NN.out.2.2.2.2.2.1.out ?_
        refine stN fun b68 hb68 => ?_
        have Fb68 := fr_s hb68 Fb67 rfl
        have e74b68 := put_s hb68 (by rw [Fb67.size, hs0]; decide)
        have e70b68 := put_o hb68 (by decide) e70b67
        clear hb68 Fb67 e70b67 e71b67 e73b67
        refine pVal 33 (.bool t5) hO rfl (wanted_none rfl) (by simp only [execOp, eval_tmpOf, eval_const, e70b68, e74b68]; first | rfl | (go_simp; done) | (go_simp; simp only [tmps_get, e70b68, e74b68]; go_simp)) ?_
        refine stN fun b69 hb69 => ?_
        have Fb69 := fr_s hb69 Fb68 rfl
        have e75b69 := put_s hb69 (by rw [Fb68.size, hs0]; decide)
        clear hb69 Fb68 e70b68 e74b68
        refine pVal 34 (.bool t5) hO rfl (wanted_none rfl) (by simp only [execOp, eval_tmpOf, e75b69]; first | rfl | (go_simp; done) | (go_simp; simp only [tmps_get, e75b69]; go_simp)) ?_
        refine stN fun b70 hb70 => ?_
        have Fb70 := fr_s hb70 Fb69 rfl
        have e76b70 := put_s hb70 (by rw [Fb69.size, hs0]; decide)
        clear hb70 Fb69 e75b69
        exact H _ Fb70 e76b70
    clear Fb58 e70b58
    intro b71 Fb71 e76b71
    have e1b71 : tmpOf b71 1 = .pointer (some ⟨W.heap.size, 0, none⟩) := (Fb71.agree 1 (by decide)).trans e1a0
    have e3b71 : tmpOf b71 3 = .int .u8 n.kind := (Fb71.agree 3 (by decide)).trans e3a0
    obtain ⟨c5, hc5⟩ : ∃ x, x = (c4 && t5) := ⟨_, rfl⟩
    rw [← hc5] at e76b71
    have Hc5 := Lib.hid hc5
    clear hc5
    suffices H : ∀ a, Fr a0 a scrR5 → tmpOf a 82 = .bool (c5 && t6) → wpFrom Tryd.prog O Q' 41 a W1 by
      cases c5
      · skip
        refine pSkip 35 hO rfl ((wanted_if (g := 34) (m := 76) (c := false) rfl rfl (by rw [Fb71.size, hs0]; decide) e76b71).trans rfl) ?_
        refine stN fun b72 hb72 => ?_
        have Fb72 := fr_s hb72 Fb71 rfl
        have e76b72 := put_o hb72 (by decide) e76b71
        clear hb72 Fb71 e1b71 e3b71 e76b71
        refine pSkip 36 hO rfl ((wanted_if (g := 34) (m := 76) (c := false) rfl rfl (by rw [Fb72.size, hs0]; decide) e76b72).trans rfl) ?_
        refine stN fun b73 hb73 => ?_
        have Fb73 := fr_s hb73 Fb72 rfl
        have e76b73 := put_o hb73 (by decide) e76b72
        clear hb73 Fb72 e76b72
        refine pSkip 37 hO rfl ((wanted_if (g := 34) (m := 76) (c := false) rfl rfl (by rw [Fb73.size, hs0]; decide) e76b73).trans rfl) ?_
        refine stN fun b74 hb74 => ?_
        have Fb74 := fr_s hb74 Fb73 rfl
        have e76b74 := put_o hb74 (by decide) e76b73
        clear hb74 Fb73 e76b73
        refine pSkip 38 hO rfl ((wanted_if (g := 34) (m := 76) (c := false) rfl rfl (by rw [Fb74.size, hs0]; decide) e76b74).trans rfl) ?_
        refine stN fun b75 hb75 => ?_
        have Fb75 := fr_s hb75 Fb74 rfl
        have e80b75 := put_s hb75 (by rw [Fb74.size, hs0]; decide)
        have e76b75 := put_o hb75 (by decide) e76b74
        clear hb75 Fb74 e76b74
        refine pVal 39 (.bool false) hO rfl (wanted_none rfl) (by simp only [execOp, eval_tmpOf, eval_const, e76b75, e80b75]; first | rfl | (go_simp; done) | (go_simp; simp only [tmps_get, e76b75, e80b75]; go_simp)) ?_
        refine stN fun b76 hb76 => ?_
        have Fb76 := fr_s hb76 Fb75 rfl
        have e81b76 := put_s hb76 (by rw [Fb75.size, hs0]; decide)
        clear hb76 Fb75 e76b75 e80b75
        refine pVal 40 (.bool false) hO rfl (wanted_none rfl) (by simp only [execOp, eval_tmpOf, e81b76]; first | rfl | (go_simp; done) | (go_simp; simp only [tmps_get, e81b76]; go_simp)) ?_
        refine stN fun b77 hb77 => ?_
        have Fb77 := fr_s hb77 Fb76 rfl
        have e82b77 := put_s hb77 (by rw [Fb76.size, hs0]; decide)
        clear hb77 Fb76 e81b76
        exact H _ Fb77 e82b77
      · skip
        refine pVal 35 (.int .u8 n.kind) hO rfl ((wanted_if (g := 34) (m := 76) (c := true) rfl rfl (by rw [Fb71.size, hs0]; decide) e76b71).trans rfl) (by simp only [execOp, eval_tmpOf, e3b71]; first | rfl | (go_simp; done) | (go_simp; simp only [tmps_get, e3b71]; go_simp)) ?_
        refine stN fun b78 hb78 => ?_
        have Fb78 := fr_s hb78 Fb71 rfl
        have e77b78 := put_s hb78 (by rw [Fb71.size, hs0]; decide)
        have e1b78 := put_o hb78 (by decide) e1b71
        have e3b78 := put_o hb78 (by decide) e3b71
        have e76b78 := put_o hb78 (by decide) e76b71
        clear hb78 Fb71 e1b71 e3b71 e76b71
        refine pVal 36 (.pointer (some ⟨W.heap.size, 7, none⟩)) hO rfl ((wanted_if (g := 34) (m := 76) (c := true) rfl rfl (by rw [Fb78.size, hs0]; decide) e76b78).trans rfl) (by simp only [execOp, eval_tmpOf, e1b78]; first | rfl | (go_simp; done) | (go_simp; simp only [tmps_get, e1b78]; go_simp)) ?_
        refine stN fun b79 hb79 => ?_
        have Fb79 := fr_s hb79 Fb78 rfl
        have e78b79 := put_s hb79 (by rw [Fb78.size, hs0]; decide)
        have e1b79 := put_o hb79 (by decide) e1b78
        have e3b79 := put_o hb79 (by decide) e3b78
        have e76b79 := put_o hb79 (by decide) e76b78
        have e77b79 := put_o hb79 (by decide) e77b78
        clear hb79 Fb78 e76b78 e77b78
        refine pVal 37 (.int .u64 n.id) hO rfl ((wanted_if (g := 34) (m := 76) (c := true) rfl rfl (by rw [Fb79.size, hs0]; decide) e76b79).trans rfl) (by simp only [execOp, eval_tmpOf, e78b79]; first | rfl | (go_simp; done) | (go_simp; simp only [tmps_get, e78b79]; go_simp)) ?_
        refine stN fun b80 hb80 => ?_
        have Fb80 := fr_s hb80 Fb79 rfl
        have e79b80 := put_s hb80 (by rw [Fb79.size, hs0]; decide)
        have e1b80 := put_o hb80 (by decide) e1b79
        have e3b80 := put_o hb80 (by decide) e3b79
        have e76b80 := put_o hb80 (by decide) e76b79
        have e77b80 := put_o hb80 (by decide) e77b79
        clear hb80 Fb79 e76b79 e77b79 e78b79
        refine pCall 38 (.bool t6) (args := #[.int .u8 n.kind, .int .u8 105, .int .u64 n.id, .int .u64 1099511627776]) hO rfl ((wanted_if (g := 34) (m := 76) (c := true) rfl rfl (by rw [Fb80.size, hs0]; decide) e76b80).trans rfl) (by simp only [execOp]; go_simp; simp only [tmps_get, e77b80, e79b80, and_self]) NN.out.2.2.2.2.2.2.1.out ?_
        refine stN fun b81 hb81 => ?_
        have Fb81 := fr_s hb81 Fb80 rfl
        have e80b81 := put_s hb81 (by rw [Fb80.size, hs0]; decide)
        have e1b81 := put_o hb81 (by decide) e1b80
        have e3b81 := put_o hb81 (by decide) e3b80
        have e76b81 := put_o hb81 (by decide) e76b80
        clear hb81 Fb80 e76b80 e77b80 e79b80
        refine pVal 39 (.bool t6) hO rfl (wanted_none rfl) (by simp only [execOp, eval_tmpOf, eval_const, e76b81, e80b81]; first | rfl | (go_simp; done) | (go_simp; simp only [tmps_get, e76b81, e80b81]; go_simp)) ?_
        refine stN fun b82 hb82 => ?_
        have Fb82 := fr_s hb82 Fb81 rfl
        have e81b82 := put_s hb82 (by rw [Fb81.size, hs0]; decide)
        have e1b82 := put_o hb82 (by decide) e1b81
        have e3b82 := put_o hb82 (by decide) e3b81
        clear hb82 Fb81 e76b81 e80b81
        refine pVal 40 (.bool t6) hO rfl (wanted_none rfl) (by simp only [execOp, eval_tmpOf, e81b82]; first | rfl | (go_simp; done) | (go_simp; simp only [tmps_get, e81b82]; go_simp)) ?_
        refine stN fun b83 hb83 => ?_
        have Fb83 := fr_s hb83 Fb82 rfl
        have e82b83 := put_s hb83 (by rw [Fb82.size, hs0]; decide)
        clear hb83 Fb82 e1b82 e3b82 e81b82
        exact H _ Fb83 e82b83
    clear Fb71 e1b71 e3b71 e76b71
    intro b84 Fb84 e82b84
    have e1b84 : tmpOf b84 1 = .pointer (some ⟨W.heap.size, 0, none⟩) := (Fb84.agree 1 (by decide)).trans e1a0
    have e3b84 : tmpOf b84 3 = .int .u8 n.kind := (Fb84.agree 3 (by decide)).trans e3a0
    obtain ⟨c6, hc6⟩ : ∃ x, x = (c5 && t6) := ⟨_, rfl⟩
    rw [← hc6] at e82b84
    have Hc6 := Lib.hid hc6
    clear hc6
    suffices H : ∀ a, Fr a0 a scrR5 → tmpOf a 89 = .bool (c6 && t7) → wpFrom Tryd.prog O Q' 48 a W1 by
      cases c6
      · skip
        refine pSkip 41 hO rfl ((wanted_if (g := 40) (m := 82) (c := false) rfl rfl (by rw [Fb84.size, hs0]; decide) e82b84).trans rfl) ?_
        refine stN fun b85 hb85 => ?_
        have Fb85 := fr_s hb85 Fb84 rfl
        have e82b85 := put_o hb85 (by decide) e82b84
        clear hb85 Fb84 e1b84 e3b84 e82b84
        refine pSkip 42 hO rfl ((wanted_if (g := 40) (m := 82) (c := false) rfl rfl (by rw [Fb85.size, hs0]; decide) e82b85).trans rfl) ?_
        refine stN fun b86 hb86 => ?_
        have Fb86 := fr_s hb86 Fb85 rfl
        have e82b86 := put_o hb86 (by decide) e82b85
        clear hb86 Fb85 e82b85
        refine pSkip 43 hO rfl ((wanted_if (g := 40) (m := 82) (c := false) rfl rfl (by rw [Fb86.size, hs0]; decide) e82b86).trans rfl) ?_
        refine stN fun b87 hb87 => ?_
        have Fb87 := fr_s hb87 Fb86 rfl
        have e82b87 := put_o hb87 (by decide) e82b86
        clear hb87 Fb86 e82b86
        refine pSkip 44 hO rfl ((wanted_if (g := 40) (m := 82) (c := false) rfl rfl (by rw [Fb87.size, hs0]; decide) e82b87).trans rfl) ?_
        refine stN fun b88 hb88 => ?_
        have Fb88 := fr_s hb88 Fb87 rfl
        have e82b88 := put_o hb88 (by decide) e82b87
        clear hb88 Fb87 e82b87
        refine pSkip 45 hO rfl ((wanted_if (g := 40) (m := 82) (c := false) rfl rfl (by rw [Fb88.size, hs0]; decide) e82b88).trans rfl) ?_
        refine stN fun b89 hb89 => ?_
        have Fb89 := fr_s hb89 Fb88 rfl
        have e87b89 := put_s hb89 (by rw [Fb88.size, hs0]; decide)
        have e82b89 := put_o hb89 (by decide) e82b88
        clear hb89 Fb88 e82b88
        refine pVal 46 (.bool false) hO rfl (wanted_none rfl) (by simp only [execOp, eval_tmpOf, eval_const, e82b89, e87b89]; first | rfl | (go_simp; done) | (go_simp; simp only [tmps_get, e82b89, e87b89]; go_simp)) ?_
        refine stN fun b90 hb90 => ?_
        have Fb90 := fr_s hb90 Fb89 rfl
        have e88b90 := put_s hb90 (by rw [Fb89.size, hs0]; decide)
        clear hb90 Fb89 e82b89 e87b89
        refine pVal 47 (.bool false) hO rfl (wanted_none rfl) (by simp only [execOp, eval_tmpOf, e88b90]; first | rfl | (go_simp; done) | (go_simp; simp only [tmps_get, e88b90]; go_simp)) ?_
        refine stN fun b91 hb91 => ?_
        have Fb91 := fr_s hb91 Fb90 rfl
        have e89b91 := put_s hb91 (by rw [Fb90.size, hs0]; decide)
        clear hb91 Fb90 e88b90
        exact H _ Fb91 e89b91
      · skip
        refine pVal 41 (.int .u8 n.kind) hO rfl ((wanted_if (g := 40) (m := 82) (c := true) rfl rfl (by rw [Fb84.size, hs0]; decide) e82b84).trans rfl) (by simp only [execOp, eval_tmpOf, e3b84]; first | rfl | (go_simp; done) | (go_simp; simp only [tmps_get, e3b84]; go_simp)) ?_
        refine stN fun b92 hb92 => ?_
        have Fb92 := fr_s hb92 Fb84 rfl
        have e83b92 := put_s hb92 (by rw [Fb84.size, hs0]; decide)
        have e1b92 := put_o hb92 (by decide) e1b84
        have e82b92 := put_o hb92 (by decide) e82b84
        clear hb92 Fb84 e1b84 e3b84 e82b84
        refine pVal 42 (.pointer (some ⟨W.heap.size, 8, none⟩)) hO rfl ((wanted_if (g := 40) (m := 82) (c := true) rfl rfl (by rw [Fb92.size, hs0]; decide) e82b92).trans rfl) (by simp only [execOp, eval_tmpOf, e1b92]; first | rfl | (go_simp; done) | (go_simp; simp only [tmps_get, e1b92]; go_simp)) ?_
        refine stN fun b93 hb93 => ?_
        have Fb93 := fr_s hb93 Fb92 rfl
        have e84b93 := put_s hb93 (by rw [Fb92.size, hs0]; decide)
        have e82b93 := put_o hb93 (by decide) e82b92
        have e83b93 := put_o hb93 (by decide) e83b92
        clear hb93 Fb92 e1b92 e82b92 e83b92
        refine pVal 43 (.int .i64 n.k) hO rfl ((wanted_if (g := 40) (m := 82) (c := true) rfl rfl (by rw [Fb93.size, hs0]; decide) e82b93).trans rfl) (by simp only [execOp, eval_tmpOf, e84b93]; first | rfl | (go_simp; done) | (go_simp; simp only [tmps_get, e84b93]; go_simp)) ?_
        refine stN fun b94 hb94 => ?_
        have Fb94 := fr_s hb94 Fb93 rfl
        have e85b94 := put_s hb94 (by rw [Fb93.size, hs0]; decide)
        have e82b94 := put_o hb94 (by decide) e82b93
        have e83b94 := put_o hb94 (by decide) e83b93
        clear hb94 Fb93 e82b93 e83b93 e84b93
        refine pVal 44 (.int .u64 n.k) hO rfl ((wanted_if (g := 40) (m := 82) (c := true) rfl rfl (by rw [Fb94.size, hs0]; decide) e82b94).trans rfl) (by simp only [execOp, eval_tmpOf, e85b94]; first | rfl | (go_simp; done) | (go_simp; simp only [tmps_get, e85b94]; go_simp)) ?_
        refine stN fun b95 hb95 => ?_
        have Fb95 := fr_s hb95 Fb94 rfl
        have e86b95 := put_s hb95 (by rw [Fb94.size, hs0]; decide)
        have e82b95 := put_o hb95 (by decide) e82b94
        have e83b95 := put_o hb95 (by decide) e83b94
        clear hb95 Fb94 e82b94 e83b94 e85b94
        refine pCall 45 (.bool t7) (args := #[.int .u8 n.kind, .int .u8 107, .int .u64 n.k, .int .u64 16]) hO rfl ((wanted_if (g := 40) (m := 82) (c := true) rfl rfl (by rw [Fb95.size, hs0]; decide) e82b95).trans rfl) (by simp only [execOp]; go_simp; simp only [tmps_get, e83b95, e86b95, and_self]) NN.out.2.2.2.2.2.2.2.1.out ?_
        refine stN fun b96 hb96 => ?_
        have Fb96 := fr_s hb96 Fb95 rfl
        have e87b96 := put_s hb96 (by rw [Fb95.size, hs0]; decide)
        have e82b96 := put_o hb96 (by decide) e82b95
        clear hb96 Fb95 e82b95 e83b95 e86b95
        refine pVal 46 (.bool t7) hO rfl (wanted_none rfl) (by simp only [execOp, eval_tmpOf, eval_const, e82b96, e87b96]; first | rfl | (go_simp; done) | (go_simp; simp only [tmps_get, e82b96, e87b96]; go_simp)) ?_
        refine stN fun b97 hb97 => ?_
        have Fb97 := fr_s hb97 Fb96 rfl
        have e88b97 := put_s hb97 (by rw [Fb96.size, hs0]; decide)
        clear hb97 Fb96 e82b96 e87b96
        refine pVal 47 (.bool t7) hO rfl (wanted_none rfl) (by simp only [execOp, eval_tmpOf, e88b97]; first | rfl | (go_simp; done) | (go_simp; simp only [tmps_get, e88b97]; go_simp)) ?_
        refine stN fun b98 hb98 => ?_
        have Fb98 := fr_s hb98 Fb97 rfl
        have e89b98 := put_s hb98 (by rw [Fb97.size, hs0]; decide)
        clear hb98 Fb97 e88b97
        exact H _ Fb98 e89b98
    clear Fb84 e1b84 e3b84 e82b84
    intro b99 Fb99 e89b99
    have e1b99 : tmpOf b99 1 = .pointer (some ⟨W.heap.size, 0, none⟩) := (Fb99.agree 1 (by decide)).trans e1a0
    have e3b99 : tmpOf b99 3 = .int .u8 n.kind := (Fb99.agree 3 (by decide)).trans e3a0
    obtain ⟨c7, hc7⟩ : ∃ x, x = (c6 && t7) := ⟨_, rfl⟩
    rw [← hc7] at e89b99
    have Hc7 := Lib.hid hc7
    clear hc7
    suffices H : ∀ a, Fr a0 a scrR5 → tmpOf a 96 = .bool (c7 && t8) → wpFrom Tryd.prog O Q' 55 a W1 by
      cases c7
      · skip
        refine pSkip 48 hO rfl ((wanted_if (g := 47) (m := 89) (c := false) rfl rfl (by rw [Fb99.size, hs0]; decide) e89b99).trans rfl) ?_
        refine stN fun b100 hb100 => ?_
        have Fb100 := fr_s hb100 Fb99 rfl
        have e89b100 := put_o hb100 (by decide) e89b99
        clear hb100 Fb99 e1b99 e3b99 e89b99
        refine pSkip 49 hO rfl ((wanted_if (g := 47) (m := 89) (c := false) rfl rfl (by rw [Fb100.size, hs0]; decide) e89b100).trans rfl) ?_
        refine stN fun b101 hb101 => ?_
        have Fb101 := fr_s hb101 Fb100 rfl
        have e89b101 := put_o hb101 (by decide) e89b100
        clear hb101 Fb100 e89b100
        refine pSkip 50 hO rfl ((wanted_if (g := 47) (m := 89) (c := false) rfl rfl (by rw [Fb101.size, hs0]; decide) e89b101).trans rfl) ?_
        refine stN fun b102 hb102 => ?_
        have Fb102 := fr_s hb102 Fb101 rfl
        have e89b102 := put_o hb102 (by decide) e89b101
        clear hb102 Fb101 e89b101
        refine pSkip 51 hO rfl ((wanted_if (g := 47) (m := 89) (c := false) rfl rfl (by rw [Fb102.size, hs0]; decide) e89b102).trans rfl) ?_
        refine stN fun b103 hb103 => ?_
        have Fb103 := fr_s hb103 Fb102 rfl
        have e89b103 := put_o hb103 (by decide) e89b102
        clear hb103 Fb102 e89b102
        refine pSkip 52 hO rfl ((wanted_if (g := 47) (m := 89) (c := false) rfl rfl (by rw [Fb103.size, hs0]; decide) e89b103).trans rfl) ?_
        refine stN fun b104 hb104 => ?_
        have Fb104 := fr_s hb104 Fb103 rfl
        have e94b104 := put_s hb104 (by rw [Fb103.size, hs0]; decide)
        have e89b104 := put_o hb104 (by decide) e89b103
        clear hb104 Fb103 e89b103
        refine pVal 53 (.bool false) hO rfl (wanted_none rfl) (by simp only [execOp, eval_tmpOf, eval_const, e89b104, e94b104]; first | rfl | (go_simp; done) | (go_simp; simp only [tmps_get, e89b104, e94b104]; go_simp)) ?_
        refine stN fun b105 hb105 => ?_
        have Fb105 := fr_s hb105 Fb104 rfl
        have e95b105 := put_s hb105 (by rw [Fb104.size, hs0]; decide)
        clear hb105 Fb104 e89b104 e94b104
        refine pVal 54 (.bool false) hO rfl (wanted_none rfl) (by simp only [execOp, eval_tmpOf, e95b105]; first | rfl | (go_simp; done) | (go_simp; simp only [tmps_get, e95b105]; go_simp)) ?_
        refine stN fun b106 hb106 => ?_
        have Fb106 := fr_s hb106 Fb105 rfl
        have e96b106 := put_s hb106 (by rw [Fb105.size, hs0]; decide)
        clear hb106 Fb105 e95b105
        exact H _ Fb106 e96b106
      · skip
        refine pVal 48 (.int .u8 n.kind) hO rfl ((wanted_if (g := 47) (m := 89) (c := true) rfl rfl (by rw [Fb99.size, hs0]; decide) e89b99).trans rfl) (by simp only [execOp, eval_tmpOf, e3b99]; first | rfl | (go_simp; done) | (go_simp; simp only [tmps_get, e3b99]; go_simp)) ?_
        refine stN fun b107 hb107 => ?_
        have Fb107 := fr_s hb107 Fb99 rfl
        have e90b107 := put_s hb107 (by rw [Fb99.size, hs0]; decide)
        have e1b107 := put_o hb107 (by decide) e1b99
        have e89b107 := put_o hb107 (by decide) e89b99
        clear hb107 Fb99 e1b99 e3b99 e89b99
        refine pVal 49 (.pointer (some ⟨W.heap.size, 9, none⟩)) hO rfl ((wanted_if (g := 47) (m := 89) (c := true) rfl rfl (by rw [Fb107.size, hs0]; decide) e89b107).trans rfl) (by simp only [execOp, eval_tmpOf, e1b107]; first | rfl | (go_simp; done) | (go_simp; simp only [tmps_get, e1b107]; go_simp)) ?_
        refine stN fun b108 hb108 => ?_
        have Fb108 := fr_s hb108 Fb107 rfl
        have e91b108 := put_s hb108 (by rw [Fb107.size, hs0]; decide)
        have e89b108 := put_o hb108 (by decide) e89b107
        have e90b108 := put_o hb108 (by decide) e90b107
        clear hb108 Fb107 e1b107 e89b107 e90b107
        refine pVal 50 (.int .i64 n.ef) hO rfl ((wanted_if (g := 47) (m := 89) (c := true) rfl rfl (by rw [Fb108.size, hs0]; decide) e89b108).trans rfl) (by simp only [execOp, eval_tmpOf, e91b108]; first | rfl | (go_simp; done) | (go_simp; simp only [tmps_get, e91b108]; go_simp)) ?_
        refine stN fun b109 hb109 => ?_
        have Fb109 := fr_s hb109 Fb108 rfl
        have e92b109 := put_s hb109 (by rw [Fb108.size, hs0]; decide)
        have e89b109 := put_o hb109 (by decide) e89b108
        have e90b109 := put_o hb109 (by decide) e90b108
        clear hb109 Fb108 e89b108 e90b108 e91b108
        refine pVal 51 (.int .u64 n.ef) hO rfl ((wanted_if (g := 47) (m := 89) (c := true) rfl rfl (by rw [Fb109.size, hs0]; decide) e89b109).trans rfl) (by simp only [execOp, eval_tmpOf, e92b109]; first | rfl | (go_simp; done) | (go_simp; simp only [tmps_get, e92b109]; go_simp)) ?_
        refine stN fun b110 hb110 => ?_
        have Fb110 := fr_s hb110 Fb109 rfl
        have e93b110 := put_s hb110 (by rw [Fb109.size, hs0]; decide)
        have e89b110 := put_o hb110 (by decide) e89b109
        have e90b110 := put_o hb110 (by decide) e90b109
        clear hb110 Fb109 e89b109 e90b109 e92b109
        refine pCall 52 (.bool t8) (args := #[.int .u8 n.kind, .int .u8 101, .int .u64 n.ef, .int .u64 256]) hO rfl ((wanted_if (g := 47) (m := 89) (c := true) rfl rfl (by rw [Fb110.size, hs0]; decide) e89b110).trans rfl) (by simp only [execOp]; go_simp; simp only [tmps_get, e90b110, e93b110, and_self]) NN.out.2.2.2.2.2.2.2.2.1.out ?_
        refine stN fun b111 hb111 => ?_
        have Fb111 := fr_s hb111 Fb110 rfl
        have e94b111 := put_s hb111 (by rw [Fb110.size, hs0]; decide)
        have e89b111 := put_o hb111 (by decide) e89b110
        clear hb111 Fb110 e89b110 e90b110 e93b110
        refine pVal 53 (.bool t8) hO rfl (wanted_none rfl) (by simp only [execOp, eval_tmpOf, eval_const, e89b111, e94b111]; first | rfl | (go_simp; done) | (go_simp; simp only [tmps_get, e89b111, e94b111]; go_simp)) ?_
        refine stN fun b112 hb112 => ?_
        have Fb112 := fr_s hb112 Fb111 rfl
        have e95b112 := put_s hb112 (by rw [Fb111.size, hs0]; decide)
        clear hb112 Fb111 e89b111 e94b111
        refine pVal 54 (.bool t8) hO rfl (wanted_none rfl) (by simp only [execOp, eval_tmpOf, e95b112]; first | rfl | (go_simp; done) | (go_simp; simp only [tmps_get, e95b112]; go_simp)) ?_
        refine stN fun b113 hb113 => ?_
        have Fb113 := fr_s hb113 Fb112 rfl
        have e96b113 := put_s hb113 (by rw [Fb112.size, hs0]; decide)
        clear hb113 Fb112 e95b112
        exact H _ Fb113 e96b113
    clear Fb99 e1b99 e3b99 e89b99
    intro b114 Fb114 e96b114
    have e1b114 : tmpOf b114 1 = .pointer (some ⟨W.heap.size, 0, none⟩) := (Fb114.agree 1 (by decide)).trans e1a0
    have e3b114 : tmpOf b114 3 = .int .u8 n.kind := (Fb114.agree 3 (by decide)).trans e3a0
    obtain ⟨c8, hc8⟩ : ∃ x, x = (c7 && t8) := ⟨_, rfl⟩
    rw [← hc8] at e96b114
    have Hc8 := Lib.hid hc8
    clear hc8
    suffices H : ∀ a, Fr a0 a scrR5 → tmpOf a 103 = .bool (c8 && t9) → wpFrom Tryd.prog O Q' 62 a W1 by
      cases c8
      · skip
        refine pSkip 55 hO rfl ((wanted_if (g := 54) (m := 96) (c := false) rfl rfl (by rw [Fb114.size, hs0]; decide) e96b114).trans rfl) ?_
        refine stN fun b115 hb115 => ?_
        have Fb115 := fr_s hb115 Fb114 rfl
        have e96b115 := put_o hb115 (by decide) e96b114
        clear hb115 Fb114 e1b114 e3b114 e96b114
        refine pSkip 56 hO rfl ((wanted_if (g := 54) (m := 96) (c := false) rfl rfl (by rw [Fb115.size, hs0]; decide) e96b115).trans rfl) ?_
        refine stN fun b116 hb116 => ?_
        have Fb116 := fr_s hb116 Fb115 rfl
        have e96b116 := put_o hb116 (by decide) e96b115
        clear hb116 Fb115 e96b115
        refine pSkip 57 hO rfl ((wanted_if (g := 54) (m := 96) (c := false) rfl rfl (by rw [Fb116.size, hs0]; decide) e96b116).trans rfl) ?_
        refine stN fun b117 hb117 => ?_
        have Fb117 := fr_s hb117 Fb116 rfl
        have e96b117 := put_o hb117 (by decide) e96b116
        clear hb117 Fb116 e96b116
        refine pSkip 58 hO rfl ((wanted_if (g := 54) (m := 96) (c := false) rfl rfl (by rw [Fb117.size, hs0]; decide) e96b117).trans rfl) ?_
        refine stN fun b118 hb118 => ?_
        have Fb118 := fr_s hb118 Fb117 rfl
        have e96b118 := put_o hb118 (by decide) e96b117
        clear hb118 Fb117 e96b117
        refine pSkip 59 hO rfl ((wanted_if (g := 54) (m := 96) (c := false) rfl rfl (by rw [Fb118.size, hs0]; decide) e96b118).trans rfl) ?_
        refine stN fun b119 hb119 => ?_
        have Fb119 := fr_s hb119 Fb118 rfl
        have e101b119 := put_s hb119 (by rw [Fb118.size, hs0]; decide)
        have e96b119 := put_o hb119 (by decide) e96b118
        clear hb119 Fb118 e96b118
        refine pVal 60 (.bool false) hO rfl (wanted_none rfl) (by simp only [execOp, eval_tmpOf, eval_const, e96b119, e101b119]; first | rfl | (go_simp; done) | (go_simp; simp only [tmps_get, e96b119, e101b119]; go_simp)) ?_
        refine stN fun b120 hb120 => ?_
        have Fb120 := fr_s hb120 Fb119 rfl
        have e102b120 := put_s hb120 (by rw [Fb119.size, hs0]; decide)
        clear hb120 Fb119 e96b119 e101b119
        refine pVal 61 (.bool false) hO rfl (wanted_none rfl) (by simp only [execOp, eval_tmpOf, e102b120]; first | rfl | (go_simp; done) | (go_simp; simp only [tmps_get, e102b120]; go_simp)) ?_
        refine stN fun b121 hb121 => ?_
        have Fb121 := fr_s hb121 Fb120 rfl
        have e103b121 := put_s hb121 (by rw [Fb120.size, hs0]; decide)
        clear hb121 Fb120 e102b120
        exact H _ Fb121 e103b121
      · skip
        refine pVal 55 (.int .u8 n.kind) hO rfl ((wanted_if (g := 54) (m := 96) (c := true) rfl rfl (by rw [Fb114.size, hs0]; decide) e96b114).trans rfl) (by simp only [execOp, eval_tmpOf, e3b114]; first | rfl | (go_simp; done) | (go_simp; simp only [tmps_get, e3b114]; go_simp)) ?_
        refine stN fun b122 hb122 => ?_
        have Fb122 := fr_s hb122 Fb114 rfl
        have e97b122 := put_s hb122 (by rw [Fb114.size, hs0]; decide)
        have e1b122 := put_o hb122 (by decide) e1b114
        have e96b122 := put_o hb122 (by decide) e96b114
        clear hb122 Fb114 e1b114 e3b114 e96b114
        refine pVal 56 (.pointer (some ⟨W.heap.size, 10, none⟩)) hO rfl ((wanted_if (g := 54) (m := 96) (c := true) rfl rfl (by rw [Fb122.size, hs0]; decide) e96b122).trans rfl) (by simp only [execOp, eval_tmpOf, e1b122]; first | rfl | (go_simp; done) | (go_simp; simp only [tmps_get, e1b122]; go_simp)) ?_
        refine stN fun b123 hb123 => ?_
        have Fb123 := fr_s hb123 Fb122 rfl
        have e98b123 := put_s hb123 (by rw [Fb122.size, hs0]; decide)
        have e96b123 := put_o hb123 (by decide) e96b122
        have e97b123 := put_o hb123 (by decide) e97b122
        clear hb123 Fb122 e1b122 e96b122 e97b122
        refine pVal 57 (.int .i64 n.code) hO rfl ((wanted_if (g := 54) (m := 96) (c := true) rfl rfl (by rw [Fb123.size, hs0]; decide) e96b123).trans rfl) (by simp only [execOp, eval_tmpOf, e98b123]; first | rfl | (go_simp; done) | (go_simp; simp only [tmps_get, e98b123]; go_simp)) ?_
        refine stN fun b124 hb124 => ?_
        have Fb124 := fr_s hb124 Fb123 rfl
        have e99b124 := put_s hb124 (by rw [Fb123.size, hs0]; decide)
        have e96b124 := put_o hb124 (by decide) e96b123
        have e97b124 := put_o hb124 (by decide) e97b123
        clear hb124 Fb123 e96b123 e97b123 e98b123
        refine pVal 58 (.int .u64 n.code) hO rfl ((wanted_if (g := 54) (m := 96) (c := true) rfl rfl (by rw [Fb124.size, hs0]; decide) e96b124).trans rfl) (by simp only [execOp, eval_tmpOf, e99b124]; first | rfl | (go_simp; done) | (go_simp; simp only [tmps_get, e99b124]; go_simp)) ?_
        refine stN fun b125 hb125 => ?_
        have Fb125 := fr_s hb125 Fb124 rfl
        have e100b125 := put_s hb125 (by rw [Fb124.size, hs0]; decide)
        have e96b125 := put_o hb125 (by decide) e96b124
        have e97b125 := put_o hb125 (by decide) e97b124
        clear hb125 Fb124 e96b124 e97b124 e99b124
        refine pCall 59 (.bool t9) (args := #[.int .u8 n.kind, .int .u8 99, .int .u64 n.code, .int .u64 13]) hO rfl ((wanted_if (g := 54) (m := 96) (c := true) rfl rfl (by rw [Fb125.size, hs0]; decide) e96b125).trans rfl) (by simp only [execOp]; go_simp; simp only [tmps_get, e97b125, e100b125, and_self]) NN.out.2.2.2.2.2.2.2.2.2.1.out ?_
        refine stN fun b126 hb126 => ?_
        have Fb126 := fr_s hb126 Fb125 rfl
        have e101b126 := put_s hb126 (by rw [Fb125.size, hs0]; decide)
        have e96b126 := put_o hb126 (by decide) e96b125
        clear hb126 Fb125 e96b125 e97b125 e100b125
        refine pVal 60 (.bool t9) hO rfl (wanted_none rfl) (by simp only [execOp, eval_tmpOf, eval_const, e96b126, e101b126]; first | rfl | (go_simp; done) | (go_simp; simp only [tmps_get, e96b126, e101b126]; go_simp)) ?_
        refine stN fun b127 hb127 => ?_
        have Fb127 := fr_s hb127 Fb126 rfl
        have e102b127 := put_s hb127 (by rw [Fb126.size, hs0]; decide)
        clear hb127 Fb126 e96b126 e101b126
        refine pVal 61 (.bool t9) hO rfl (wanted_none rfl) (by simp only [execOp, eval_tmpOf, e102b127]; first | rfl | (go_simp; done) | (go_simp; simp only [tmps_get, e102b127]; go_simp)) ?_
        refine stN fun b128 hb128 => ?_
        have Fb128 := fr_s hb128 Fb127 rfl
        have e103b128 := put_s hb128 (by rw [Fb127.size, hs0]; decide)
        clear hb128 Fb127 e102b127
        exact H _ Fb128 e103b128
    clear Fb114 e1b114 e3b114 e96b114
    intro b129 Fb129 e103b129
    have e1b129 : tmpOf b129 1 = .pointer (some ⟨W.heap.size, 0, none⟩) := (Fb129.agree 1 (by decide)).trans e1a0
    have e3b129 : tmpOf b129 3 = .int .u8 n.kind := (Fb129.agree 3 (by decide)).trans e3a0
    obtain ⟨c9, hc9⟩ : ∃ x, x = (c8 && t9) := ⟨_, rfl⟩
    rw [← hc9] at e103b129
    have Hc9 := Lib.hid hc9
    clear hc9
    suffices H : ∀ a, Fr a0 a scrR5 → tmpOf a 6 = .bool (c9 && t10) → wpFrom Tryd.prog O Q' 69 a W1 by
      cases c9
      · skip
        refine pSkip 62 hO rfl ((wanted_if (g := 61) (m := 103) (c := false) rfl rfl (by rw [Fb129.size, hs0]; decide) e103b129).trans rfl) ?_
        refine stN fun b130 hb130 => ?_
        have Fb130 := fr_s hb130 Fb129 rfl
        have e103b130 := put_o hb130 (by decide) e103b129
        clear hb130 Fb129 e1b129 e3b129 e103b129
        refine pSkip 63 hO rfl ((wanted_if (g := 61) (m := 103) (c := false) rfl rfl (by rw [Fb130.size, hs0]; decide) e103b130).trans rfl) ?_
        refine stN fun b131 hb131 => ?_
        have Fb131 := fr_s hb131 Fb130 rfl
        have e103b131 := put_o hb131 (by decide) e103b130
        clear hb131 Fb130 e103b130
        refine pSkip 64 hO rfl ((wanted_if (g := 61) (m := 103) (c := false) rfl rfl (by rw [Fb131.size, hs0]; decide) e103b131).trans rfl) ?_
        refine stN fun b132 hb132 => ?_
        have Fb132 := fr_s hb132 Fb131 rfl
        have e103b132 := put_o hb132 (by decide) e103b131
        clear hb132 Fb131 e103b131
        refine pSkip 65 hO rfl ((wanted_if (g := 61) (m := 103) (c := false) rfl rfl (by rw [Fb132.size, hs0]; decide) e103b132).trans rfl) ?_
        refine stN fun b133 hb133 => ?_
        have Fb133 := fr_s hb133 Fb132 rfl
        have e103b133 := put_o hb133 (by decide) e103b132
        clear hb133 Fb132 e103b132
        refine pSkip 66 hO rfl ((wanted_if (g := 61) (m := 103) (c := false) rfl rfl (by rw [Fb133.size, hs0]; decide) e103b133).trans rfl) ?_
        refine stN fun b134 hb134 => ?_
        have Fb134 := fr_s hb134 Fb133 rfl
        have e108b134 := put_s hb134 (by rw [Fb133.size, hs0]; decide)
        have e103b134 := put_o hb134 (by decide) e103b133
        clear hb134 Fb133 e103b133
        refine pVal 67 (.bool false) hO rfl (wanted_none rfl) (by simp only [execOp, eval_tmpOf, eval_const, e103b134, e108b134]; first | rfl | (go_simp; done) | (go_simp; simp only [tmps_get, e103b134, e108b134]; go_simp)) ?_
        refine stN fun b135 hb135 => ?_
        have Fb135 := fr_s hb135 Fb134 rfl
        have e109b135 := put_s hb135 (by rw [Fb134.size, hs0]; decide)
        clear hb135 Fb134 e103b134 e108b134
        refine pVal 68 (.bool false) hO rfl (wanted_none rfl) (by simp only [execOp, eval_tmpOf, e109b135]; first | rfl | (go_simp; done) | (go_simp; simp only [tmps_get, e109b135]; go_simp)) ?_
        refine stN fun b136 hb136 => ?_
        have Fb136 := fr_s hb136 Fb135 rfl
        have e6b136 := put_s hb136 (by rw [Fb135.size, hs0]; decide)
        clear hb136 Fb135 e109b135
        exact H _ Fb136 e6b136
      · skip
        refine pVal 62 (.int .u8 n.kind) hO rfl ((wanted_if (g := 61) (m := 103) (c := true) rfl rfl (by rw [Fb129.size, hs0]; decide) e103b129).trans rfl) (by simp only [execOp, eval_tmpOf, e3b129]; first | rfl | (go_simp; done) | (go_simp; simp only [tmps_get, e3b129]; go_simp)) ?_
        refine stN fun b137 hb137 => ?_
        have Fb137 := fr_s hb137 Fb129 rfl
        have e104b137 := put_s hb137 (by rw [Fb129.size, hs0]; decide)
        have e1b137 := put_o hb137 (by decide) e1b129
        have e103b137 := put_o hb137 (by decide) e103b129
        clear hb137 Fb129 e1b129 e3b129 e103b129
        refine pVal 63 (.pointer (some ⟨W.heap.size, 11, none⟩)) hO rfl ((wanted_if (g := 61) (m := 103) (c := true) rfl rfl (by rw [Fb137.size, hs0]; decide) e103b137).trans rfl) (by simp only [execOp, eval_tmpOf, e1b137]; first | rfl | (go_simp; done) | (go_simp; simp only [tmps_get, e1b137]; go_simp)) ?_
        refine stN fun b138 hb138 => ?_
        have Fb138 := fr_s hb138 Fb137 rfl
        have e105b138 := put_s hb138 (by rw [Fb137.size, hs0]; decide)
        have e103b138 := put_o hb138 (by decide) e103b137
        have e104b138 := put_o hb138 (by decide) e104b137
        clear hb138 Fb137 e1b137 e103b137 e104b137
        refine pVal 64 (.int .i64 n.who) hO rfl ((wanted_if (g := 61) (m := 103) (c := true) rfl rfl (by rw [Fb138.size, hs0]; decide) e103b138).trans rfl) (by simp only [execOp, eval_tmpOf, e105b138]; first | rfl | (go_simp; done) | (go_simp; simp only [tmps_get, e105b138]; go_simp)) ?_
        refine stN fun b139 hb139 => ?_
        have Fb139 := fr_s hb139 Fb138 rfl
        have e106b139 := put_s hb139 (by rw [Fb138.size, hs0]; decide)
        have e103b139 := put_o hb139 (by decide) e103b138
        have e104b139 := put_o hb139 (by decide) e104b138
        clear hb139 Fb138 e103b138 e104b138 e105b138
        refine pVal 65 (.int .u64 n.who) hO rfl ((wanted_if (g := 61) (m := 103) (c := true) rfl rfl (by rw [Fb139.size, hs0]; decide) e103b139).trans rfl) (by simp only [execOp, eval_tmpOf, e106b139]; first | rfl | (go_simp; done) | (go_simp; simp only [tmps_get, e106b139]; go_simp)) ?_
        refine stN fun b140 hb140 => ?_
        have Fb140 := fr_s hb140 Fb139 rfl
        have e107b140 := put_s hb140 (by rw [Fb139.size, hs0]; decide)
        have e103b140 := put_o hb140 (by decide) e103b139
        have e104b140 := put_o hb140 (by decide) e104b139
        clear hb140 Fb139 e103b139 e104b139 e106b139
        refine pCall 66 (.bool t10) (args := #[.int .u8 n.kind, .int .u8 119, .int .u64 n.who, .int .u64 15]) hO rfl ((wanted_if (g := 61) (m := 103) (c := true) rfl rfl (by rw [Fb140.size, hs0]; decide) e103b140).trans rfl) (by simp only [execOp]; go_simp; simp only [tmps_get, e104b140, e107b140, and_self]) NN.out.2.2.2.2.2.2.2.2.2.2.out ?_
        refine stN fun b141 hb141 => ?_
        have Fb141 := fr_s hb141 Fb140 rfl
        have e108b141 := put_s hb141 (by rw [Fb140.size, hs0]; decide)
        have e103b141 := put_o hb141 (by decide) e103b140
        clear hb141 Fb140 e103b140 e104b140 e107b140
        refine pVal 67 (.bool t10) hO rfl (wanted_none rfl) (by simp only [execOp, eval_tmpOf, eval_const, e103b141, e108b141]; first | rfl | (go_simp; done) | (go_simp; simp only [tmps_get, e103b141, e108b141]; go_simp)) ?_
        refine stN fun b142 hb142 => ?_
        have Fb142 := fr_s hb142 Fb141 rfl
        have e109b142 := put_s hb142 (by rw [Fb141.size, hs0]; decide)
        clear hb142 Fb141 e103b141 e108b141
        refine pVal 68 (.bool t10) hO rfl (wanted_none rfl) (by simp only [execOp, eval_tmpOf, e109b142]; first | rfl | (go_simp; done) | (go_simp; simp only [tmps_get, e109b142]; go_simp)) ?_
        refine stN fun b143 hb143 => ?_
        have Fb143 := fr_s hb143 Fb142 rfl
        have e6b143 := put_s hb143 (by rw [Fb142.size, hs0]; decide)
        clear hb143 Fb142 e109b142
        exact H _ Fb143 e6b143
    clear Fb129 e1b129 e3b129 e103b129
    intro b144 Fb144 e6b144
    have e1b144 : tmpOf b144 1 = .pointer (some ⟨W.heap.size, 0, none⟩) := (Fb144.agree 1 (by decide)).trans e1a0
    have e3b144 : tmpOf b144 3 = .int .u8 n.kind := (Fb144.agree 3 (by decide)).trans e3a0
    obtain ⟨c10, hc10⟩ : ∃ x, x = (c9 && t10) := ⟨_, rfl⟩
    rw [← hc10] at e6b144
    have Hc10 := Lib.hid hc10
    clear hc10
    refine pEnd 69 hO rfl (hR _ ⟨Fb144.size.trans hs0, Fb144.defers.trans hd0, e1b144, e3b144, e6b144.trans (congrArg Value.bool ?_)⟩)
    unfold numsK
    rw [TT.out.1.out, TT.out.2.1.out, TT.out.2.2.1.out, TT.out.2.2.2.1.out, TT.out.2.2.2.2.1.out, TT.out.2.2.2.2.2.1.out, TT.out.2.2.2.2.2.2.1.out, TT.out.2.2.2.2.2.2.2.1.out, TT.out.2.2.2.2.2.2.2.2.1.out, TT.out.2.2.2.2.2.2.2.2.2.1.out, TT.out.2.2.2.2.2.2.2.2.2.2.out, Hc10.out, Hc9.out, Hc8.out, Hc7.out, Hc6.out, Hc5.out, Hc4.out, Hc3.out, Hc2.out, Hc1.out]
  case after =>
  rintro a5 ⟨hs5, hd5, e1a5, e3a5, e6a5⟩
  obtain ⟨tn, htn⟩ : ∃ t, t = numsK n := ⟨_, rfl⟩
  rw [← htn] at e6a5
  have TN := Lib.hid htn.symm
  have VK := Lib.hid (vecK n.vec _ W1 V1.out.vec)
  obtain ⟨tv, htv⟩ : ∃ t, t = (decide (n.vec.length = 0) || rightB n.vec) := ⟨_, rfl⟩
  rw [← htv] at VK
  have TV := Lib.hid htv.symm
  clear htv htn
  iterate 3 go_step
  refine region_goQ (fun a => a.tmps.size = 219 ∧ a.defers = [] ∧ tmpOf a 1 = .pointer (some ⟨W.heap.size, 0, none⟩) ∧ tmpOf a 3 = .int .u8 n.kind ∧ tmpOf a 6 = .bool tn) (fun a => a.tmps.size = 219 ∧ a.defers = [] ∧ tmpOf a 1 = .pointer (some ⟨W.heap.size, 0, none⟩) ∧ tmpOf a 3 = .int .u8 n.kind ∧ tmpOf a 6 = .bool (lensK n)) ⟨hs5, hd5, e1a5, e3a5, e6a5⟩ ?chain6 ?after6
  case chain6 =>
    clear hs5 hd5 e1a5 e3a5 e6a5
    rintro a0 O Q' ⟨hs0, hd0, e1a0, e3a0, e6a0⟩ hO hR
    have Fa0 : Fr a0 a0 scrR6 := Fr.refl _ _
    have z12 := ZZ.out.1
    have z13 := ZZ.out.2.1
    have z14 := ZZ.out.2.2.1
    have z15 := ZZ.out.2.2.2
    refine pVal 0 (.bool tn) hO rfl (wanted_none rfl) (by simp only [execOp, eval_tmpOf, e6a0]; first | rfl | (go_simp; done) | (go_simp; simp only [tmps_get, e6a0]; go_simp)) ?_
    refine stN fun b1 hb1 => ?_
    have Fb1 := fr_s hb1 Fa0 rfl
    have e110b1 := put_s hb1 (by rw [Fa0.size, hs0]; decide)
    clear hb1 Fa0 e6a0
    refine pVal 1 (.bool tn) hO rfl (wanted_none rfl) (by simp only [execOp, eval_tmpOf, e110b1]; first | rfl | (go_simp; done) | (go_simp; simp only [tmps_get, e110b1]; go_simp)) ?_
    refine stN fun b2 hb2 => ?_
    have Fb2 := fr_s hb2 Fb1 rfl
    have e111b2 := put_s hb2 (by rw [Fb1.size, hs0]; decide)
    clear hb2 Fb1 e110b1
    suffices H : ∀ a, Fr a0 a scrR6 → tmpOf a 111 = .bool tn → wpFrom Tryd.prog O Q' 2 a W1 from H _ Fb2 e111b2
    clear Fb2 e111b2
    intro b3 Fb3 e111b3
    have e1b3 : tmpOf b3 1 = .pointer (some ⟨W.heap.size, 0, none⟩) := (Fb3.agree 1 (by decide)).trans e1a0
    have e3b3 : tmpOf b3 3 = .int .u8 n.kind := (Fb3.agree 3 (by decide)).trans e3a0
    suffices H : ∀ a, Fr a0 a scrR6 → tmpOf a 119 = .bool (tn && t11) → wpFrom Tryd.prog O Q' 10 a W1 by
      cases tn
      · skip
        refine pSkip 2 hO rfl ((wanted_if (g := 1) (m := 111) (c := false) rfl rfl (by rw [Fb3.size, hs0]; decide) e111b3).trans rfl) ?_
        refine stN fun b4 hb4 => ?_
        have Fb4 := fr_s hb4 Fb3 rfl
        have e111b4 := put_o hb4 (by decide) e111b3
        clear hb4 Fb3 e1b3 e3b3 e111b3
        refine pSkip 3 hO rfl ((wanted_if (g := 1) (m := 111) (c := false) rfl rfl (by rw [Fb4.size, hs0]; decide) e111b4).trans rfl) ?_
        refine stN fun b5 hb5 => ?_
        have Fb5 := fr_s hb5 Fb4 rfl
        have e111b5 := put_o hb5 (by decide) e111b4
        clear hb5 Fb4 e111b4
        refine pSkip 4 hO rfl ((wanted_if (g := 1) (m := 111) (c := false) rfl rfl (by rw [Fb5.size, hs0]; decide) e111b5).trans rfl) ?_
        refine stN fun b6 hb6 => ?_
        have Fb6 := fr_s hb6 Fb5 rfl
        have e111b6 := put_o hb6 (by decide) e111b5
        clear hb6 Fb5 e111b5
        refine pSkip 5 hO rfl ((wanted_if (g := 1) (m := 111) (c := false) rfl rfl (by rw [Fb6.size, hs0]; decide) e111b6).trans rfl) ?_
        refine stN fun b7 hb7 => ?_
        have Fb7 := fr_s hb7 Fb6 rfl
        have e111b7 := put_o hb7 (by decide) e111b6
        clear hb7 Fb6 e111b6
        refine pSkip 6 hO rfl ((wanted_if (g := 1) (m := 111) (c := false) rfl rfl (by rw [Fb7.size, hs0]; decide) e111b7).trans rfl) ?_
        refine stN fun b8 hb8 => ?_
        have Fb8 := fr_s hb8 Fb7 rfl
        have e111b8 := put_o hb8 (by decide) e111b7
        clear hb8 Fb7 e111b7
        refine pSkip 7 hO rfl ((wanted_if (g := 1) (m := 111) (c := false) rfl rfl (by rw [Fb8.size, hs0]; decide) e111b8).trans rfl) ?_
        refine stN fun b9 hb9 => ?_
        have Fb9 := fr_s hb9 Fb8 rfl
        have e117b9 := put_s hb9 (by rw [Fb8.size, hs0]; decide)
        have e111b9 := put_o hb9 (by decide) e111b8
        clear hb9 Fb8 e111b8
        refine pVal 8 (.bool false) hO rfl (wanted_none rfl) (by simp only [execOp, eval_tmpOf, eval_const, e111b9, e117b9]; first | rfl | (go_simp; done) | (go_simp; simp only [tmps_get, e111b9, e117b9]; go_simp)) ?_
        refine stN fun b10 hb10 => ?_
        have Fb10 := fr_s hb10 Fb9 rfl
        have e118b10 := put_s hb10 (by rw [Fb9.size, hs0]; decide)
        clear hb10 Fb9 e111b9 e117b9
        refine pVal 9 (.bool false) hO rfl (wanted_none rfl) (by simp only [execOp, eval_tmpOf, e118b10]; first | rfl | (go_simp; done) | (go_simp; simp only [tmps_get, e118b10]; go_simp)) ?_
        refine stN fun b11 hb11 => ?_
        have Fb11 := fr_s hb11 Fb10 rfl
        have e119b11 := put_s hb11 (by rw [Fb10.size, hs0]; decide)
        clear hb11 Fb10 e118b10
        exact H _ Fb11 e119b11
      · skip
        refine pVal 2 (.int .u8 n.kind) hO rfl ((wanted_if (g := 1) (m := 111) (c := true) rfl rfl (by rw [Fb3.size, hs0]; decide) e111b3).trans rfl) (by simp only [execOp, eval_tmpOf, e3b3]; first | rfl | (go_simp; done) | (go_simp; simp only [tmps_get, e3b3]; go_simp)) ?_
        refine stN fun b12 hb12 => ?_
        have Fb12 := fr_s hb12 Fb3 rfl
        have e112b12 := put_s hb12 (by rw [Fb3.size, hs0]; decide)
        have e1b12 := put_o hb12 (by decide) e1b3
        have e111b12 := put_o hb12 (by decide) e111b3
        clear hb12 Fb3 e1b3 e3b3 e111b3
        refine pVal 3 (.pointer (some ⟨W.heap.size, 12, none⟩)) hO rfl ((wanted_if (g := 1) (m := 111) (c := true) rfl rfl (by rw [Fb12.size, hs0]; decide) e111b12).trans rfl) (by simp only [execOp, eval_tmpOf, e1b12]; first | rfl | (go_simp; done) | (go_simp; simp only [tmps_get, e1b12]; go_simp)) ?_
        refine stN fun b13 hb13 => ?_
        have Fb13 := fr_s hb13 Fb12 rfl
        have e113b13 := put_s hb13 (by rw [Fb12.size, hs0]; decide)
        have e111b13 := put_o hb13 (by decide) e111b12
        have e112b13 := put_o hb13 (by decide) e112b12
        clear hb13 Fb12 e1b12 e111b12 e112b12
        refine pVal 4 (.slice p0 n.parts.length q0) hO rfl ((wanted_if (g := 1) (m := 111) (c := true) rfl rfl (by rw [Fb13.size, hs0]; decide) e111b13).trans rfl) (by simp only [execOp, eval_tmpOf, e113b13]; first | rfl | (go_simp; done) | (go_simp; simp only [tmps_get, e113b13]; go_simp)) ?_
        refine stN fun b14 hb14 => ?_
        have Fb14 := fr_s hb14 Fb13 rfl
        have e114b14 := put_s hb14 (by rw [Fb13.size, hs0]; decide)
        have e111b14 := put_o hb14 (by decide) e111b13
        have e112b14 := put_o hb14 (by decide) e112b13
        clear hb14 Fb13 e111b13 e112b13 e113b13
        refine pVal 5 (.int .i64 (n.parts.length : Int)) hO rfl ((wanted_if (g := 1) (m := 111) (c := true) rfl rfl (by rw [Fb14.size, hs0]; decide) e111b14).trans rfl) (by simp only [execOp]; first | rfl | (go_simp; done) | (go_simp; simp only [tmps_get, e114b14]; go_simp)) ?_
        refine stN fun b15 hb15 => ?_
        have Fb15 := fr_s hb15 Fb14 rfl
        have e115b15 := put_s hb15 (by rw [Fb14.size, hs0]; decide)
        have e111b15 := put_o hb15 (by decide) e111b14
        have e112b15 := put_o hb15 (by decide) e112b14
        clear hb15 Fb14 e111b14 e112b14 e114b14
        refine pVal 6 (.int .u64 (n.parts.length : Int)) hO rfl ((wanted_if (g := 1) (m := 111) (c := true) rfl rfl (by rw [Fb15.size, hs0]; decide) e111b15).trans rfl) (by simp only [execOp, eval_tmpOf, e115b15]; first | rfl | (go_simp; done) | (go_simp; simp only [tmps_get, e115b15]; go_simp)) ?_
        refine stN fun b16 hb16 => ?_
        have Fb16 := fr_s hb16 Fb15 rfl
        have e116b16 := put_s hb16 (by rw [Fb15.size, hs0]; decide)
        have e111b16 := put_o hb16 (by decide) e111b15
        have e112b16 := put_o hb16 (by decide) e112b15
        clear hb16 Fb15 e111b15 e112b15 e115b15
        refine pCall 7 (.bool t11) (args := #[.int .u8 n.kind, .int .u8 112, .int .u64 (n.parts.length : Int), .int .u64 4]) hO rfl ((wanted_if (g := 1) (m := 111) (c := true) rfl rfl (by rw [Fb16.size, hs0]; decide) e111b16).trans rfl) (by simp only [execOp]; go_simp; simp only [tmps_get, e112b16, e116b16, and_self]) NM.out.1.out ?_
        refine stN fun b17 hb17 => ?_
        have Fb17 := fr_s hb17 Fb16 rfl
        have e117b17 := put_s hb17 (by rw [Fb16.size, hs0]; decide)
        have e111b17 := put_o hb17 (by decide) e111b16
        clear hb17 Fb16 e111b16 e112b16 e116b16
        refine pVal 8 (.bool t11) hO rfl (wanted_none rfl) (by simp only [execOp, eval_tmpOf, eval_const, e111b17, e117b17]; first | rfl | (go_simp; done) | (go_simp; simp only [tmps_get, e111b17, e117b17]; go_simp)) ?_
        refine stN fun b18 hb18 => ?_
        have Fb18 := fr_s hb18 Fb17 rfl
        have e118b18 := put_s hb18 (by rw [Fb17.size, hs0]; decide)
        clear hb18 Fb17 e111b17 e117b17
        refine pVal 9 (.bool t11) hO rfl (wanted_none rfl) (by simp only [execOp, eval_tmpOf, e118b18]; first | rfl | (go_simp; done) | (go_simp; simp only [tmps_get, e118b18]; go_simp)) ?_
        refine stN fun b19 hb19 => ?_
        have Fb19 := fr_s hb19 Fb18 rfl
        have e119b19 := put_s hb19 (by rw [Fb18.size, hs0]; decide)
        clear hb19 Fb18 e118b18
        exact H _ Fb19 e119b19
    clear Fb3 e1b3 e3b3 e111b3
    intro b20 Fb20 e119b20
    have e1b20 : tmpOf b20 1 = .pointer (some ⟨W.heap.size, 0, none⟩) := (Fb20.agree 1 (by decide)).trans e1a0
    have e3b20 : tmpOf b20 3 = .int .u8 n.kind := (Fb20.agree 3 (by decide)).trans e3a0
    obtain ⟨k0, hk0⟩ : ∃ x, x = (tn && t11) := ⟨_, rfl⟩
    rw [← hk0] at e119b20
    have Hk0 := Lib.hid hk0
    clear hk0
    suffices H : ∀ a, Fr a0 a scrR6 → tmpOf a 127 = .bool (k0 && t12) → wpFrom Tryd.prog O Q' 18 a W1 by
      cases k0
      · skip
        refine pSkip 10 hO rfl ((wanted_if (g := 9) (m := 119) (c := false) rfl rfl (by rw [Fb20.size, hs0]; decide) e119b20).trans rfl) ?_
        refine stN fun b21 hb21 => ?_
        have Fb21 := fr_s hb21 Fb20 rfl
        have e119b21 := put_o hb21 (by decide) e119b20
        clear hb21 Fb20 e1b20 e3b20 e119b20
        refine pSkip 11 hO rfl ((wanted_if (g := 9) (m := 119) (c := false) rfl rfl (by rw [Fb21.size, hs0]; decide) e119b21).trans rfl) ?_
        refine stN fun b22 hb22 => ?_
        have Fb22 := fr_s hb22 Fb21 rfl
        have e119b22 := put_o hb22 (by decide) e119b21
        clear hb22 Fb21 e119b21
        refine pSkip 12 hO rfl ((wanted_if (g := 9) (m := 119) (c := false) rfl rfl (by rw [Fb22.size, hs0]; decide) e119b22).trans rfl) ?_
        refine stN fun b23 hb23 => ?_
        have Fb23 := fr_s hb23 Fb22 rfl
        have e119b23 := put_o hb23 (by decide) e119b22
        clear hb23 Fb22 e119b22
        refine pSkip 13 hO rfl ((wanted_if (g := 9) (m := 119) (c := false) rfl rfl (by rw [Fb23.size, hs0]; decide) e119b23).trans rfl) ?_
        refine stN fun b24 hb24 => ?_
        have Fb24 := fr_s hb24 Fb23 rfl
        have e119b24 := put_o hb24 (by decide) e119b23
        clear hb24 Fb23 e119b23
        refine pSkip 14 hO rfl ((wanted_if (g := 9) (m := 119) (c := false) rfl rfl (by rw [Fb24.size, hs0]; decide) e119b24).trans rfl) ?_
        refine stN fun b25 hb25 => ?_
        have Fb25 := fr_s hb25 Fb24 rfl
        have e119b25 := put_o hb25 (by decide) e119b24
        clear hb25 Fb24 e119b24
        refine pSkip 15 hO rfl ((wanted_if (g := 9) (m := 119) (c := false) rfl rfl (by rw [Fb25.size, hs0]; decide) e119b25).trans rfl) ?_
        refine stN fun b26 hb26 => ?_
        have Fb26 := fr_s hb26 Fb25 rfl
        have e125b26 := put_s hb26 (by rw [Fb25.size, hs0]; decide)
        have e119b26 := put_o hb26 (by decide) e119b25
        clear hb26 Fb25 e119b25
        refine pVal 16 (.bool false) hO rfl (wanted_none rfl) (by simp only [execOp, eval_tmpOf, eval_const, e119b26, e125b26]; first | rfl | (go_simp; done) | (go_simp; simp only [tmps_get, e119b26, e125b26]; go_simp)) ?_
        refine stN fun b27 hb27 => ?_
        have Fb27 := fr_s hb27 Fb26 rfl
        have e126b27 := put_s hb27 (by rw [Fb26.size, hs0]; decide)
        clear hb27 Fb26 e119b26 e125b26
        refine pVal 17 (.bool false) hO rfl (wanted_none rfl) (by simp only [execOp, eval_tmpOf, e126b27]; first | rfl | (go_simp; done) | (go_simp; simp only [tmps_get, e126b27]; go_simp)) ?_
        refine stN fun b28 hb28 => ?_
        have Fb28 := fr_s hb28 Fb27 rfl
        have e127b28 := put_s hb28 (by rw [Fb27.size, hs0]; decide)
        clear hb28 Fb27 e126b27
        exact H _ Fb28 e127b28
      · skip
        refine pVal 10 (.int .u8 n.kind) hO rfl ((wanted_if (g := 9) (m := 119) (c := true) rfl rfl (by rw [Fb20.size, hs0]; decide) e119b20).trans rfl) (by simp only [execOp, eval_tmpOf, e3b20]; first | rfl | (go_simp; done) | (go_simp; simp only [tmps_get, e3b20]; go_simp)) ?_
        refine stN fun b29 hb29 => ?_
        have Fb29 := fr_s hb29 Fb20 rfl
        have e120b29 := put_s hb29 (by rw [Fb20.size, hs0]; decide)
        have e1b29 := put_o hb29 (by decide) e1b20
        have e119b29 := put_o hb29 (by decide) e119b20
        clear hb29 Fb20 e1b20 e3b20 e119b20
        refine pVal 11 (.pointer (some ⟨W.heap.size, 13, none⟩)) hO rfl ((wanted_if (g := 9) (m := 119) (c := true) rfl rfl (by rw [Fb29.size, hs0]; decide) e119b29).trans rfl) (by simp only [execOp, eval_tmpOf, e1b29]; first | rfl | (go_simp; done) | (go_simp; simp only [tmps_get, e1b29]; go_simp)) ?_
        refine stN fun b30 hb30 => ?_
        have Fb30 := fr_s hb30 Fb29 rfl
        have e121b30 := put_s hb30 (by rw [Fb29.size, hs0]; decide)
        have e119b30 := put_o hb30 (by decide) e119b29
        have e120b30 := put_o hb30 (by decide) e120b29
        clear hb30 Fb29 e1b29 e119b29 e120b29
        refine pVal 12 (.slice p1 n.ops.length q1) hO rfl ((wanted_if (g := 9) (m := 119) (c := true) rfl rfl (by rw [Fb30.size, hs0]; decide) e119b30).trans rfl) (by simp only [execOp, eval_tmpOf, e121b30]; first | rfl | (go_simp; done) | (go_simp; simp only [tmps_get, e121b30]; go_simp)) ?_
        refine stN fun b31 hb31 => ?_
        have Fb31 := fr_s hb31 Fb30 rfl
        have e122b31 := put_s hb31 (by rw [Fb30.size, hs0]; decide)
        have e119b31 := put_o hb31 (by decide) e119b30
        have e120b31 := put_o hb31 (by decide) e120b30
        clear hb31 Fb30 e119b30 e120b30 e121b30
        refine pVal 13 (.int .i64 (n.ops.length : Int)) hO rfl ((wanted_if (g := 9) (m := 119) (c := true) rfl rfl (by rw [Fb31.size, hs0]; decide) e119b31).trans rfl) (by simp only [execOp]; first | rfl | (go_simp; done) | (go_simp; simp only [tmps_get, e122b31]; go_simp)) ?_
        refine stN fun b32 hb32 => ?_
        have Fb32 := fr_s hb32 Fb31 rfl
        have e123b32 := put_s hb32 (by rw [Fb31.size, hs0]; decide)
        have e119b32 := put_o hb32 (by decide) e119b31
        have e120b32 := put_o hb32 (by decide) e120b31
        clear hb32 Fb31 e119b31 e120b31 e122b31
        refine pVal 14 (.int .u64 (n.ops.length : Int)) hO rfl ((wanted_if (g := 9) (m := 119) (c := true) rfl rfl (by rw [Fb32.size, hs0]; decide) e119b32).trans rfl) (by simp only [execOp, eval_tmpOf, e123b32]; first | rfl | (go_simp; done) | (go_simp; simp only [tmps_get, e123b32]; go_simp)) ?_
        refine stN fun b33 hb33 => ?_
        have Fb33 := fr_s hb33 Fb32 rfl
        have e124b33 := put_s hb33 (by rw [Fb32.size, hs0]; decide)
        have e119b33 := put_o hb33 (by decide) e119b32
        have e120b33 := put_o hb33 (by decide) e120b32
        clear hb33 Fb32 e119b32 e120b32 e123b32
        refine pCall 15 (.bool t12) (args := #[.int .u8 n.kind, .int .u8 111, .int .u64 (n.ops.length : Int), .int .u64 16]) hO rfl ((wanted_if (g := 9) (m := 119) (c := true) rfl rfl (by rw [Fb33.size, hs0]; decide) e119b33).trans rfl) (by simp only [execOp]; go_simp; simp only [tmps_get, e120b33, e124b33, and_self]) NM.out.2.1.out ?_
        refine stN fun b34 hb34 => ?_
        have Fb34 := fr_s hb34 Fb33 rfl
        have e125b34 := put_s hb34 (by rw [Fb33.size, hs0]; decide)
        have e119b34 := put_o hb34 (by decide) e119b33
        clear hb34 Fb33 e119b33 e120b33 e124b33
        refine pVal 16 (.bool t12) hO rfl (wanted_none rfl) (by simp only [execOp, eval_tmpOf, eval_const, e119b34, e125b34]; first | rfl | (go_simp; done) | (go_simp; simp only [tmps_get, e119b34, e125b34]; go_simp)) ?_
        refine stN fun b35 hb35 => ?_
        have Fb35 := fr_s hb35 Fb34 rfl
        have e126b35 := put_s hb35 (by rw [Fb34.size, hs0]; decide)
        clear hb35 Fb34 e119b34 e125b34
        refine pVal 17 (.bool t12) hO rfl (wanted_none rfl) (by simp only [execOp, eval_tmpOf, e126b35]; first | rfl | (go_simp; done) | (go_simp; simp only [tmps_get, e126b35]; go_simp)) ?_
        refine stN fun b36 hb36 => ?_
        have Fb36 := fr_s hb36 Fb35 rfl
        have e127b36 := put_s hb36 (by rw [Fb35.size, hs0]; decide)
        clear hb36 Fb35 e126b35
        exact H _ Fb36 e127b36
    clear Fb20 e1b20 e3b20 e119b20
    intro b37 Fb37 e127b37
    have e1b37 : tmpOf b37 1 = .pointer (some ⟨W.heap.size, 0, none⟩) := (Fb37.agree 1 (by decide)).trans e1a0
    have e3b37 : tmpOf b37 3 = .int .u8 n.kind := (Fb37.agree 3 (by decide)).trans e3a0
    obtain ⟨k1, hk1⟩ : ∃ x, x = (k0 && t12) := ⟨_, rfl⟩
    rw [← hk1] at e127b37
    have Hk1 := Lib.hid hk1
    clear hk1
    suffices H : ∀ a, Fr a0 a scrR6 → tmpOf a 135 = .bool (k1 && t13) → wpFrom Tryd.prog O Q' 26 a W1 by
      cases k1
      · skip
        refine pSkip 18 hO rfl ((wanted_if (g := 17) (m := 127) (c := false) rfl rfl (by rw [Fb37.size, hs0]; decide) e127b37).trans rfl) ?_
        refine stN fun b38 hb38 => ?_
        have Fb38 := fr_s hb38 Fb37 rfl
        have e127b38 := put_o hb38 (by decide) e127b37
        clear hb38 Fb37 e1b37 e3b37 e127b37
        refine pSkip 19 hO rfl ((wanted_if (g := 17) (m := 127) (c := false) rfl rfl (by rw [Fb38.size, hs0]; decide) e127b38).trans rfl) ?_
        refine stN fun b39 hb39 => ?_
        have Fb39 := fr_s hb39 Fb38 rfl
        have e127b39 := put_o hb39 (by decide) e127b38
        clear hb39 Fb38 e127b38
        refine pSkip 20 hO rfl ((wanted_if (g := 17) (m := 127) (c := false) rfl rfl (by rw [Fb39.size, hs0]; decide) e127b39).trans rfl) ?_
        refine stN fun b40 hb40 => ?_
        have Fb40 := fr_s hb40 Fb39 rfl
        have e127b40 := put_o hb40 (by decide) e127b39
        clear hb40 Fb39 e127b39
        refine pSkip 21 hO rfl ((wanted_if (g := 17) (m := 127) (c := false) rfl rfl (by rw [Fb40.size, hs0]; decide) e127b40).trans rfl) ?_
        refine stN fun b41 hb41 => ?_
        have Fb41 := fr_s hb41 Fb40 rfl
        have e127b41 := put_o hb41 (by decide) e127b40
        clear hb41 Fb40 e127b40
        refine pSkip 22 hO rfl ((wanted_if (g := 17) (m := 127) (c := false) rfl rfl (by rw [Fb41.size, hs0]; decide) e127b41).trans rfl) ?_
        refine stN fun b42 hb42 => ?_
        have Fb42 := fr_s hb42 Fb41 rfl
        have e127b42 := put_o hb42 (by decide) e127b41
        clear hb42 Fb41 e127b41
        refine pSkip 23 hO rfl ((wanted_if (g := 17) (m := 127) (c := false) rfl rfl (by rw [Fb42.size, hs0]; decide) e127b42).trans rfl) ?_
        refine stN fun b43 hb43 => ?_
        have Fb43 := fr_s hb43 Fb42 rfl
        have e133b43 := put_s hb43 (by rw [Fb42.size, hs0]; decide)
        have e127b43 := put_o hb43 (by decide) e127b42
        clear hb43 Fb42 e127b42
        refine pVal 24 (.bool false) hO rfl (wanted_none rfl) (by simp only [execOp, eval_tmpOf, eval_const, e127b43, e133b43]; first | rfl | (go_simp; done) | (go_simp; simp only [tmps_get, e127b43, e133b43]; go_simp)) ?_
        refine stN fun b44 hb44 => ?_
        have Fb44 := fr_s hb44 Fb43 rfl
        have e134b44 := put_s hb44 (by rw [Fb43.size, hs0]; decide)
        clear hb44 Fb43 e127b43 e133b43
        refine pVal 25 (.bool false) hO rfl (wanted_none rfl) (by simp only [execOp, eval_tmpOf, e134b44]; first | rfl | (go_simp; done) | (go_simp; simp only [tmps_get, e134b44]; go_simp)) ?_
        refine stN fun b45 hb45 => ?_
        have Fb45 := fr_s hb45 Fb44 rfl
        have e135b45 := put_s hb45 (by rw [Fb44.size, hs0]; decide)
        clear hb45 Fb44 e134b44
        exact H _ Fb45 e135b45
      · skip
        refine pVal 18 (.int .u8 n.kind) hO rfl ((wanted_if (g := 17) (m := 127) (c := true) rfl rfl (by rw [Fb37.size, hs0]; decide) e127b37).trans rfl) (by simp only [execOp, eval_tmpOf, e3b37]; first | rfl | (go_simp; done) | (go_simp; simp only [tmps_get, e3b37]; go_simp)) ?_
        refine stN fun b46 hb46 => ?_
        have Fb46 := fr_s hb46 Fb37 rfl
        have e128b46 := put_s hb46 (by rw [Fb37.size, hs0]; decide)
        have e1b46 := put_o hb46 (by decide) e1b37
        have e127b46 := put_o hb46 (by decide) e127b37
        clear hb46 Fb37 e1b37 e3b37 e127b37
        refine pVal 19 (.pointer (some ⟨W.heap.size, 14, none⟩)) hO rfl ((wanted_if (g := 17) (m := 127) (c := true) rfl rfl (by rw [Fb46.size, hs0]; decide) e127b46).trans rfl) (by simp only [execOp, eval_tmpOf, e1b46]; first | rfl | (go_simp; done) | (go_simp; simp only [tmps_get, e1b46]; go_simp)) ?_
        refine stN fun b47 hb47 => ?_
        have Fb47 := fr_s hb47 Fb46 rfl
        have e129b47 := put_s hb47 (by rw [Fb46.size, hs0]; decide)
        have e127b47 := put_o hb47 (by decide) e127b46
        have e128b47 := put_o hb47 (by decide) e128b46
        clear hb47 Fb46 e1b46 e127b46 e128b46
        refine pVal 20 (.slice p2 n.vec.length q2) hO rfl ((wanted_if (g := 17) (m := 127) (c := true) rfl rfl (by rw [Fb47.size, hs0]; decide) e127b47).trans rfl) (by simp only [execOp, eval_tmpOf, e129b47]; first | rfl | (go_simp; done) | (go_simp; simp only [tmps_get, e129b47]; go_simp)) ?_
        refine stN fun b48 hb48 => ?_
        have Fb48 := fr_s hb48 Fb47 rfl
        have e130b48 := put_s hb48 (by rw [Fb47.size, hs0]; decide)
        have e127b48 := put_o hb48 (by decide) e127b47
        have e128b48 := put_o hb48 (by decide) e128b47
        clear hb48 Fb47 e127b47 e128b47 e129b47
        refine pVal 21 (.int .i64 (n.vec.length : Int)) hO rfl ((wanted_if (g := 17) (m := 127) (c := true) rfl rfl (by rw [Fb48.size, hs0]; decide) e127b48).trans rfl) (by simp only [execOp]; first | rfl | (go_simp; done) | (go_simp; simp only [tmps_get, e130b48]; go_simp)) ?_
        refine stN fun b49 hb49 => ?_
        have Fb49 := fr_s hb49 Fb48 rfl
        have e131b49 := put_s hb49 (by rw [Fb48.size, hs0]; decide)
        have e127b49 := put_o hb49 (by decide) e127b48
        have e128b49 := put_o hb49 (by decide) e128b48
        clear hb49 Fb48 e127b48 e128b48 e130b48
        refine pVal 22 (.int .u64 (n.vec.length : Int)) hO rfl ((wanted_if (g := 17) (m := 127) (c := true) rfl rfl (by rw [Fb49.size, hs0]; decide) e127b49).trans rfl) (by simp only [execOp, eval_tmpOf, e131b49]; first | rfl | (go_simp; done) | (go_simp; simp only [tmps_get, e131b49]; go_simp)) ?_
        refine stN fun b50 hb50 => ?_
        have Fb50 := fr_s hb50 Fb49 rfl
        have e132b50 := put_s hb50 (by rw [Fb49.size, hs0]; decide)
        have e127b50 := put_o hb50 (by decide) e127b49
        have e128b50 := put_o hb50 (by decide) e128b49
        clear hb50 Fb49 e127b49 e128b49 e131b49
        refine pCall 23 (.bool t13) (args := #[.int .u8 n.kind, .int .u8 118, .int .u64 (n.vec.length : Int), .int .u64 8]) hO rfl ((wanted_if (g := 17) (m := 127) (c := true) rfl rfl (by rw [Fb50.size, hs0]; decide) e127b50).trans rfl) (by simp only [execOp]; go_simp; simp only [tmps_get, e128b50, e132b50, and_self]) NM.out.2.2.1.out ?_
        refine stN fun b51 hb51 => ?_
        have Fb51 := fr_s hb51 Fb50 rfl
        have e133b51 := put_s hb51 (by rw [Fb50.size, hs0]; decide)
        have e127b51 := put_o hb51 (by decide) e127b50
        clear hb51 Fb50 e127b50 e128b50 e132b50
        refine pVal 24 (.bool t13) hO rfl (wanted_none rfl) (by simp only [execOp, eval_tmpOf, eval_const, e127b51, e133b51]; first | rfl | (go_simp; done) | (go_simp; simp only [tmps_get, e127b51, e133b51]; go_simp)) ?_
        refine stN fun b52 hb52 => ?_
        have Fb52 := fr_s hb52 Fb51 rfl
        have e134b52 := put_s hb52 (by rw [Fb51.size, hs0]; decide)
        clear hb52 Fb51 e127b51 e133b51
        refine pVal 25 (.bool t13) hO rfl (wanted_none rfl) (by simp only [execOp, eval_tmpOf, e134b52]; first | rfl | (go_simp; done) | (go_simp; simp only [tmps_get, e134b52]; go_simp)) ?_
        refine stN fun b53 hb53 => ?_
        have Fb53 := fr_s hb53 Fb52 rfl
        have e135b53 := put_s hb53 (by rw [Fb52.size, hs0]; decide)
        clear hb53 Fb52 e134b52
        exact H _ Fb53 e135b53
    clear Fb37 e1b37 e3b37 e127b37
    intro b54 Fb54 e135b54
    have e1b54 : tmpOf b54 1 = .pointer (some ⟨W.heap.size, 0, none⟩) := (Fb54.agree 1 (by decide)).trans e1a0
    have e3b54 : tmpOf b54 3 = .int .u8 n.kind := (Fb54.agree 3 (by decide)).trans e3a0
    obtain ⟨k2, hk2⟩ : ∃ x, x = (k1 && t13) := ⟨_, rfl⟩
    rw [← hk2] at e135b54
    have Hk2 := Lib.hid hk2
    clear hk2
    suffices H : ∀ a, Fr a0 a scrR6 → tmpOf a 143 = .bool (k2 && t14) → wpFrom Tryd.prog O Q' 34 a W1 by
      cases k2
      · skip
        refine pSkip 26 hO rfl ((wanted_if (g := 25) (m := 135) (c := false) rfl rfl (by rw [Fb54.size, hs0]; decide) e135b54).trans rfl) ?_
        refine stN fun b55 hb55 => ?_
        have Fb55 := fr_s hb55 Fb54 rfl
        have e135b55 := put_o hb55 (by decide) e135b54
        clear hb55 Fb54 e1b54 e3b54 e135b54
        refine pSkip 27 hO rfl ((wanted_if (g := 25) (m := 135) (c := false) rfl rfl (by rw [Fb55.size, hs0]; decide) e135b55).trans rfl) ?_
        refine stN fun b56 hb56 => ?_
        have Fb56 := fr_s hb56 Fb55 rfl
        have e135b56 := put_o hb56 (by decide) e135b55
        clear hb56 Fb55 e135b55
        refine pSkip 28 hO rfl ((wanted_if (g := 25) (m := 135) (c := false) rfl rfl (by rw [Fb56.size, hs0]; decide) e135b56).trans rfl) ?_
        refine stN fun b57 hb57 => ?_
        have Fb57 := fr_s hb57 Fb56 rfl
        have e135b57 := put_o hb57 (by decide) e135b56
        clear hb57 Fb56 e135b56
        refine pSkip 29 hO rfl ((wanted_if (g := 25) (m := 135) (c := false) rfl rfl (by rw [Fb57.size, hs0]; decide) e135b57).trans rfl) ?_
        refine stN fun b58 hb58 => ?_
        have Fb58 := fr_s hb58 Fb57 rfl
        have e135b58 := put_o hb58 (by decide) e135b57
        clear hb58 Fb57 e135b57
        refine pSkip 30 hO rfl ((wanted_if (g := 25) (m := 135) (c := false) rfl rfl (by rw [Fb58.size, hs0]; decide) e135b58).trans rfl) ?_
        refine stN fun b59 hb59 => ?_
        have Fb59 := fr_s hb59 Fb58 rfl
        have e135b59 := put_o hb59 (by decide) e135b58
        clear hb59 Fb58 e135b58
        refine pSkip 31 hO rfl ((wanted_if (g := 25) (m := 135) (c := false) rfl rfl (by rw [Fb59.size, hs0]; decide) e135b59).trans rfl) ?_
        refine stN fun b60 hb60 => ?_
        have Fb60 := fr_s hb60 Fb59 rfl
        have e141b60 := put_s hb60 (by rw [Fb59.size, hs0]; decide)
        have e135b60 := put_o hb60 (by decide) e135b59
        clear hb60 Fb59 e135b59
        refine pVal 32 (.bool false) hO rfl (wanted_none rfl) (by simp only [execOp, eval_tmpOf, eval_const, e135b60, e141b60]; first | rfl | (go_simp; done) | (go_simp; simp only [tmps_get, e135b60, e141b60]; go_simp)) ?_
        refine stN fun b61 hb61 => ?_
        have Fb61 := fr_s hb61 Fb60 rfl
        have e142b61 := put_s hb61 (by rw [Fb60.size, hs0]; decide)
        clear hb61 Fb60 e135b60 e141b60
        refine pVal 33 (.bool false) hO rfl (wanted_none rfl) (by simp only [execOp, eval_tmpOf, e142b61]; first | rfl | (go_simp; done) | (go_simp; simp only [tmps_get, e142b61]; go_simp)) ?_
        refine stN fun b62 hb62 => ?_
        have Fb62 := fr_s hb62 Fb61 rfl
        have e143b62 := put_s hb62 (by rw [Fb61.size, hs0]; decide)
        clear hb62 Fb61 e142b61
        exact H _ Fb62 e143b62
      · skip
        refine pVal 26 (.int .u8 n.kind) hO rfl ((wanted_if (g := 25) (m := 135) (c := true) rfl rfl (by rw [Fb54.size, hs0]; decide) e135b54).trans rfl) (by simp only [execOp, eval_tmpOf, e3b54]; first | rfl | (go_simp; done) | (go_simp; simp only [tmps_get, e3b54]; go_simp)) ?_
        refine stN fun b63 hb63 => ?_
        have Fb63 := fr_s hb63 Fb54 rfl
        have e136b63 := put_s hb63 (by rw [Fb54.size, hs0]; decide)
        have e1b63 := put_o hb63 (by decide) e1b54
        have e135b63 := put_o hb63 (by decide) e135b54
        clear hb63 Fb54 e1b54 e3b54 e135b54
        refine pVal 27 (.pointer (some ⟨W.heap.size, 15, none⟩)) hO rfl ((wanted_if (g := 25) (m := 135) (c := true) rfl rfl (by rw [Fb63.size, hs0]; decide) e135b63).trans rfl) (by simp only [execOp, eval_tmpOf, e1b63]; first | rfl | (go_simp; done) | (go_simp; simp only [tmps_get, e1b63]; go_simp)) ?_
        refine stN fun b64 hb64 => ?_
        have Fb64 := fr_s hb64 Fb63 rfl
        have e137b64 := put_s hb64 (by rw [Fb63.size, hs0]; decide)
        have e135b64 := put_o hb64 (by decide) e135b63
        have e136b64 := put_o hb64 (by decide) e136b63
        clear hb64 Fb63 e1b63 e135b63 e136b63
        refine pVal 28 (.slice p3 n.hits.length q3) hO rfl ((wanted_if (g := 25) (m := 135) (c := true) rfl rfl (by rw [Fb64.size, hs0]; decide) e135b64).trans rfl) (by simp only [execOp, eval_tmpOf, e137b64]; first | rfl | (go_simp; done) | (go_simp; simp only [tmps_get, e137b64]; go_simp)) ?_
        refine stN fun b65 hb65 => ?_
        have Fb65 := fr_s hb65 Fb64 rfl
        have e138b65 := put_s hb65 (by rw [Fb64.size, hs0]; decide)
        have e135b65 := put_o hb65 (by decide) e135b64
        have e136b65 := put_o hb65 (by decide) e136b64
        clear hb65 Fb64 e135b64 e136b64 e137b64
        refine pVal 29 (.int .i64 (n.hits.length : Int)) hO rfl ((wanted_if (g := 25) (m := 135) (c := true) rfl rfl (by rw [Fb65.size, hs0]; decide) e135b65).trans rfl) (by simp only [execOp]; first | rfl | (go_simp; done) | (go_simp; simp only [tmps_get, e138b65]; go_simp)) ?_
        refine stN fun b66 hb66 => ?_
        have Fb66 := fr_s hb66 Fb65 rfl
        have e139b66 := put_s hb66 (by rw [Fb65.size, hs0]; decide)
        have e135b66 := put_o hb66 (by decide) e135b65
        have e136b66 := put_o hb66 (by decide) e136b65
        clear hb66 Fb65 e135b65 e136b65 e138b65
        refine pVal 30 (.int .u64 (n.hits.length : Int)) hO rfl ((wanted_if (g := 25) (m := 135) (c := true) rfl rfl (by rw [Fb66.size, hs0]; decide) e135b66).trans rfl) (by simp only [execOp, eval_tmpOf, e139b66]; first | rfl | (go_simp; done) | (go_simp; simp only [tmps_get, e139b66]; go_simp)) ?_
        refine stN fun b67 hb67 => ?_
        have Fb67 := fr_s hb67 Fb66 rfl
        have e140b67 := put_s hb67 (by rw [Fb66.size, hs0]; decide)
        have e135b67 := put_o hb67 (by decide) e135b66
        have e136b67 := put_o hb67 (by decide) e136b66
        clear hb67 Fb66 e135b66 e136b66 e139b66
        refine pCall 31 (.bool t14) (args := #[.int .u8 n.kind, .int .u8 104, .int .u64 (n.hits.length : Int), .int .u64 16]) hO rfl ((wanted_if (g := 25) (m := 135) (c := true) rfl rfl (by rw [Fb67.size, hs0]; decide) e135b67).trans rfl) (by simp only [execOp]; go_simp; simp only [tmps_get, e136b67, e140b67, and_self]) NM.out.2.2.2.out ?_
        refine stN fun b68 hb68 => ?_
        have Fb68 := fr_s hb68 Fb67 rfl
        have e141b68 := put_s hb68 (by rw [Fb67.size, hs0]; decide)
        have e135b68 := put_o hb68 (by decide) e135b67
        clear hb68 Fb67 e135b67 e136b67 e140b67
        refine pVal 32 (.bool t14) hO rfl (wanted_none rfl) (by simp only [execOp, eval_tmpOf, eval_const, e135b68, e141b68]; first | rfl | (go_simp; done) | (go_simp; simp only [tmps_get, e135b68, e141b68]; go_simp)) ?_
        refine stN fun b69 hb69 => ?_
        have Fb69 := fr_s hb69 Fb68 rfl
        have e142b69 := put_s hb69 (by rw [Fb68.size, hs0]; decide)
        clear hb69 Fb68 e135b68 e141b68
        refine pVal 33 (.bool t14) hO rfl (wanted_none rfl) (by simp only [execOp, eval_tmpOf, e142b69]; first | rfl | (go_simp; done) | (go_simp; simp only [tmps_get, e142b69]; go_simp)) ?_
        refine stN fun b70 hb70 => ?_
        have Fb70 := fr_s hb70 Fb69 rfl
        have e143b70 := put_s hb70 (by rw [Fb69.size, hs0]; decide)
        clear hb70 Fb69 e142b69
        exact H _ Fb70 e143b70
    clear Fb54 e1b54 e3b54 e135b54
    intro b71 Fb71 e143b71
    have e1b71 : tmpOf b71 1 = .pointer (some ⟨W.heap.size, 0, none⟩) := (Fb71.agree 1 (by decide)).trans e1a0
    have e3b71 : tmpOf b71 3 = .int .u8 n.kind := (Fb71.agree 3 (by decide)).trans e3a0
    obtain ⟨k3, hk3⟩ : ∃ x, x = (k2 && t14) := ⟨_, rfl⟩
    rw [← hk3] at e143b71
    have Hk3 := Lib.hid hk3
    clear hk3
    suffices H : ∀ a, Fr a0 a scrR6 → tmpOf a 6 = .bool (k3 && tv) → wpFrom Tryd.prog O Q' 39 a W1 by
      cases k3
      · skip
        refine pSkip 34 hO rfl ((wanted_if (g := 33) (m := 143) (c := false) rfl rfl (by rw [Fb71.size, hs0]; decide) e143b71).trans rfl) ?_
        refine stN fun b72 hb72 => ?_
        have Fb72 := fr_s hb72 Fb71 rfl
        have e143b72 := put_o hb72 (by decide) e143b71
        clear hb72 Fb71 e1b71 e3b71 e143b71
        refine pSkip 35 hO rfl ((wanted_if (g := 33) (m := 143) (c := false) rfl rfl (by rw [Fb72.size, hs0]; decide) e143b72).trans rfl) ?_
        refine stN fun b73 hb73 => ?_
        have Fb73 := fr_s hb73 Fb72 rfl
        have e143b73 := put_o hb73 (by decide) e143b72
        clear hb73 Fb72 e143b72
        refine pSkip 36 hO rfl ((wanted_if (g := 33) (m := 143) (c := false) rfl rfl (by rw [Fb73.size, hs0]; decide) e143b73).trans rfl) ?_
        refine stN fun b74 hb74 => ?_
        have Fb74 := fr_s hb74 Fb73 rfl
        have e146b74 := put_s hb74 (by rw [Fb73.size, hs0]; decide)
        have e143b74 := put_o hb74 (by decide) e143b73
        clear hb74 Fb73 e143b73
        refine pVal 37 (.bool false) hO rfl (wanted_none rfl) (by simp only [execOp, eval_tmpOf, eval_const, e143b74, e146b74]; first | rfl | (go_simp; done) | (go_simp; simp only [tmps_get, e143b74, e146b74]; go_simp)) ?_
        refine stN fun b75 hb75 => ?_
        have Fb75 := fr_s hb75 Fb74 rfl
        have e147b75 := put_s hb75 (by rw [Fb74.size, hs0]; decide)
        clear hb75 Fb74 e143b74 e146b74
        refine pVal 38 (.bool false) hO rfl (wanted_none rfl) (by simp only [execOp, eval_tmpOf, e147b75]; first | rfl | (go_simp; done) | (go_simp; simp only [tmps_get, e147b75]; go_simp)) ?_
        refine stN fun b76 hb76 => ?_
        have Fb76 := fr_s hb76 Fb75 rfl
        have e6b76 := put_s hb76 (by rw [Fb75.size, hs0]; decide)
        clear hb76 Fb75 e147b75
        exact H _ Fb76 e6b76
      · skip
        refine pVal 34 (.pointer (some ⟨W.heap.size, 14, none⟩)) hO rfl ((wanted_if (g := 33) (m := 143) (c := true) rfl rfl (by rw [Fb71.size, hs0]; decide) e143b71).trans rfl) (by simp only [execOp, eval_tmpOf, e1b71]; first | rfl | (go_simp; done) | (go_simp; simp only [tmps_get, e1b71]; go_simp)) ?_
        refine stN fun b77 hb77 => ?_
        have Fb77 := fr_s hb77 Fb71 rfl
        have e144b77 := put_s hb77 (by rw [Fb71.size, hs0]; decide)
        have e143b77 := put_o hb77 (by decide) e143b71
        clear hb77 Fb71 e1b71 e3b71 e143b71
        refine pVal 35 (.slice p2 n.vec.length q2) hO rfl ((wanted_if (g := 33) (m := 143) (c := true) rfl rfl (by rw [Fb77.size, hs0]; decide) e143b77).trans rfl) (by simp only [execOp, eval_tmpOf, e144b77]; first | rfl | (go_simp; done) | (go_simp; simp only [tmps_get, e144b77]; go_simp)) ?_
        refine stN fun b78 hb78 => ?_
        have Fb78 := fr_s hb78 Fb77 rfl
        have e145b78 := put_s hb78 (by rw [Fb77.size, hs0]; decide)
        have e143b78 := put_o hb78 (by decide) e143b77
        clear hb78 Fb77 e143b77 e144b77
        refine pCall 36 (.bool tv) (args := #[.slice p2 n.vec.length q2]) hO rfl ((wanted_if (g := 33) (m := 143) (c := true) rfl rfl (by rw [Fb78.size, hs0]; decide) e143b78).trans rfl) (by simp only [execOp]; go_simp; simp only [tmps_get, e145b78]) VK.out ?_
        refine stN fun b79 hb79 => ?_
        have Fb79 := fr_s hb79 Fb78 rfl
        have e146b79 := put_s hb79 (by rw [Fb78.size, hs0]; decide)
        have e143b79 := put_o hb79 (by decide) e143b78
        clear hb79 Fb78 e143b78 e145b78
        refine pVal 37 (.bool tv) hO rfl (wanted_none rfl) (by simp only [execOp, eval_tmpOf, eval_const, e143b79, e146b79]; first | rfl | (go_simp; done) | (go_simp; simp only [tmps_get, e143b79, e146b79]; go_simp)) ?_
        refine stN fun b80 hb80 => ?_
        have Fb80 := fr_s hb80 Fb79 rfl
        have e147b80 := put_s hb80 (by rw [Fb79.size, hs0]; decide)
        clear hb80 Fb79 e143b79 e146b79
        refine pVal 38 (.bool tv) hO rfl (wanted_none rfl) (by simp only [execOp, eval_tmpOf, e147b80]; first | rfl | (go_simp; done) | (go_simp; simp only [tmps_get, e147b80]; go_simp)) ?_
        refine stN fun b81 hb81 => ?_
        have Fb81 := fr_s hb81 Fb80 rfl
        have e6b81 := put_s hb81 (by rw [Fb80.size, hs0]; decide)
        clear hb81 Fb80 e147b80
        exact H _ Fb81 e6b81
    clear Fb71 e1b71 e3b71 e143b71
    intro b82 Fb82 e6b82
    have e1b82 : tmpOf b82 1 = .pointer (some ⟨W.heap.size, 0, none⟩) := (Fb82.agree 1 (by decide)).trans e1a0
    have e3b82 : tmpOf b82 3 = .int .u8 n.kind := (Fb82.agree 3 (by decide)).trans e3a0
    obtain ⟨k4, hk4⟩ : ∃ x, x = (k3 && tv) := ⟨_, rfl⟩
    rw [← hk4] at e6b82
    have Hk4 := Lib.hid hk4
    clear hk4
    refine pEnd 39 hO rfl (hR _ ⟨Fb82.size.trans hs0, Fb82.defers.trans hd0, e1b82, e3b82, e6b82.trans (congrArg Value.bool ?_)⟩)
    unfold lensK
    rw [TN.out, TM.out.1.out, TM.out.2.1.out, TM.out.2.2.1.out, TM.out.2.2.2.out, TV.out, Hk4.out, Hk3.out, Hk2.out, Hk1.out, Hk0.out]
  case after6 =>
  rintro a6 ⟨hs6, hd6, e1a6, e3a6, e6a6⟩
  obtain ⟨f, rfl, hfj⟩ := explode219 a6 hs6 hd6
  have g1 : f 1 = .pointer (some ⟨W.heap.size, 0, none⟩) := (hfj 1).symm.trans e1a6
  have g6 : f 6 = .bool (lensK n) := (hfj 6).symm.trans e6a6
  obtain ⟨s0, hs0⟩ : ∃ s, s = lensK n := ⟨_, rfl⟩
  rw [← hs0] at g6
  have LK := Lib.hid hs0.symm
  simp only [g1, g6]
  have z12 := ZZ.out.1
  have z13 := ZZ.out.2.1
  have z15 := ZZ.out.2.2.2
  clear hs6 hd6 e1a6 e3a6 e6a6 hfj g1 g6 hs0 VK TV TN z1 z2 z3 z4 z5 z6 z7 z8 z9 z10 z11 wk wef wcode wwho wl0 wl1 wl2 wl3 NN TT NM TM hnm hne NK NK1 ddk ddef ddcode ddwho sk sef scode swho
  go_wp2_with fail
  go_loopg [6, 151] n.parts.length (fun q s6 i wr => ∃ k : Nat, q = n.parts.length - k ∧ k ≤ n.parts.length ∧ i = .int .i64 k ∧ s6 = .bool (s0 && (List.range k).all (partOk n.parts)) ∧ wr = W1)
  case atStart => exact ⟨0, rfl, by omega, rfl, by simp, rfl⟩
  case round =>
    obtain ⟨k, rfl, hk, rfl, rfl, rfl⟩ := hrel
    have RS := Lib.hid (all_range_succ k (partOk n.parts))
    obtain ⟨s, hs⟩ : ∃ s, s = (s0 && (List.range k).all (partOk n.parts)) := ⟨_, rfl⟩
    rw [← hs]
    have HS := Lib.hid hs.symm
    clear hs
    by_cases hlk : k < n.parts.length
    · obtain ⟨_, _, hv, -, -, -, hcell⟩ := V1.out.parts.slice
      obtain ⟨rfl, -, rfl⟩ := Value.slice.inj hv
      obtain ⟨b, off, rfl, d0⟩ := hcell k hlk
      have hg : n.parts.getD k 0 = n.parts[k] := by simp [List.getD, List.getElem?_eq_getElem hlk]
      have k0 : (0 : Int) ≤ (k : Int) := by omega
      have k1 : (k : Int) < (n.parts.length : Int) := by omega
      cases s
      · clear hv hcell hg
        go_wp2_with fail
        go_roundg (n.parts.length - (k + 1))
        case measure => omega
        case rel => exact ⟨k + 1, rfl, by omega, by go_num, congrArg Value.bool (by rw [RS.out, ← Bool.and_assoc, HS.out]; rfl), rfl⟩
      · by_cases e0 : n.parts[k] < 0
        · have PF : Hid (partOk n.parts k = false) := by simp only [partOk, hg]; simp; intro; omega
          have x0 : decide (0 ≤ n.parts[k]) = false := decide_eq_false (by omega)
          clear hv hcell hg
          go_wp2_with fail
          go_roundg (n.parts.length - (k + 1))
          case measure => omega
          case rel => exact ⟨k + 1, rfl, by omega, by go_num, congrArg Value.bool (by rw [RS.out, ← Bool.and_assoc, HS.out, PF.out]; rfl), rfl⟩
        · have e0' : (0 : Int) ≤ n.parts[k] := by omega
          have x0 : decide (0 ≤ n.parts[k]) = true := decide_eq_true e0'
          by_cases e1 : 16 ≤ n.parts[k]
          · have PF : Hid (partOk n.parts k = false) := by simp only [partOk, hg]; simp; intro; omega
            have x1 : decide (n.parts[k] ≤ 15) = false := decide_eq_false (by omega)
            clear hv hcell hg
            go_wp2_with fail
            go_roundg (n.parts.length - (k + 1))
            case measure => omega
            case rel => exact ⟨k + 1, rfl, by omega, by go_num, congrArg Value.bool (by rw [RS.out, ← Bool.and_assoc, HS.out, PF.out]; rfl), rfl⟩
          · have e1' : n.parts[k] ≤ 15 := by omega
            have x1 : decide (n.parts[k] ≤ 15) = true := decide_eq_true e1'
            by_cases e2 : k = 0
            · subst e2
              have PF := Lib.hid (show partOk n.parts 0 = true by unfold partOk; rw [hg]; simp; omega)
              have d0' : wr.cell? ⟨b, off, none⟩ = some (.int .i64 (n.parts[0])) := by simpa using d0
              clear hv hcell hg d0
              go_wp2_with fail
              go_roundg (n.parts.length - (0 + 1))
              case measure => omega
              case rel => exact ⟨1, rfl, by omega, rfl, congrArg Value.bool (by rw [RS.out, ← Bool.and_assoc, HS.out, PF.out]; rfl), rfl⟩
            · obtain ⟨kk, rfl⟩ : ∃ kk, k = kk + 1 := ⟨k - 1, by omega⟩
              obtain ⟨b', off', hb', d1⟩ := hcell kk (by omega)
              obtain ⟨rfl, rfl⟩ : b = b' ∧ off = off' := by simpa using hb'
              have hg1 : n.parts.getD kk 0 = n.parts[kk] := by simp [List.getD, List.getElem?_eq_getElem (show kk < n.parts.length by omega)]
              have m2 : (0 : Int) ≤ (kk : Int) := by omega
              have m3 : (kk : Int) < (n.parts.length : Int) := by omega
              have m5 : (kk : Int) + 1 < (n.parts.length : Int) := by omega
              have m6 : (0 : Int) < (kk : Int) + 1 := by omega
              have m7 : ¬ (kk : Int) + 1 = 0 := by omega
              have m8 : decide ((kk : Int) + 1 = 0) = false := decide_eq_false m7
              by_cases e3 : n.parts[kk] < n.parts[kk + 1]
              · have PF := Lib.hid (show partOk n.parts (kk + 1) = true by unfold partOk; rw [hg, Nat.add_sub_cancel, hg1]; simp; omega)
                have x3 : decide (n.parts[kk] < n.parts[kk + 1]) = true := decide_eq_true e3
                clear hv hcell hg hg1 hb'
                go_wp2_with fail
                go_roundg (n.parts.length - (kk + 1 + 1))
                case measure => omega
                case rel => exact ⟨kk + 1 + 1, rfl, by omega, by go_num, congrArg Value.bool (by rw [RS.out, ← Bool.and_assoc, HS.out, PF.out]; rfl), rfl⟩
              · have PF := Lib.hid (show partOk n.parts (kk + 1) = false by unfold partOk; rw [hg, Nat.add_sub_cancel, hg1]; simp; intros; omega)
                have x3 : decide (n.parts[kk] < n.parts[kk + 1]) = false := decide_eq_false e3
                clear hv hcell hg hg1 hb'
                go_wp2_with fail
                go_roundg (n.parts.length - (kk + 1 + 1))
                case measure => omega
                case rel => exact ⟨kk + 1 + 1, rfl, by omega, by go_num, congrArg Value.bool (by rw [RS.out, ← Bool.and_assoc, HS.out, PF.out]; rfl), rfl⟩
    · obtain rfl : k = n.parts.length := by omega
      have HP := Lib.hid (show (lensK n && partsB n.parts) = s from by rw [LK.out]; exact HS.out)
      clear RS HS LK
      obtain ⟨wo, rfl⟩ : ∃ wo : World, wo = wr := ⟨_, rfl⟩
      go_wp2_with fail
      go_loopg [6, 183] n.ops.length (fun q s6 i wr => ∃ j : Nat, q = n.ops.length - j ∧ j ≤ n.ops.length ∧ i = .int .i64 j ∧ s6 = .bool (s && !(n.ops.take j).any badOp) ∧ Below wo.heap.size wo wr)
      case atStart => exact ⟨0, rfl, by omega, rfl, by simp, Below.refl _ _⟩
      case round =>
        obtain ⟨j, rfl, hj, rfl, rfl, hb⟩ := hrel
        obtain ⟨s2, hs2⟩ : ∃ x, x = (s && !(n.ops.take j).any badOp) := ⟨_, rfl⟩
        rw [← hs2]
        have HB := Lib.hid hb
        by_cases hlj : j < n.ops.length
        · have RS := Lib.hid (any_take_succ n.ops badOp j hlj)
          have HS := Lib.hid hs2.symm
          obtain ⟨b, off, u, rfl, -, c0, c1, hn, -⟩ := (V1.out.ops.below hb).elem hlj
          obtain ⟨up, uc, rfl, -, -, -, -⟩ := hn.slice
          have k0 : (0 : Int) ≤ (j : Int) := by omega
          have k1 : (j : Int) < (n.ops.length : Int) := by omega
          have hx0 : 0 ≤ n.ops[j].1 := (FT.out.ops _ (List.getElem_mem hlj)).1
          have BA := Lib.hid (hb.alloc hb.size (.cells #[.int .u64 n.ops[j].1, .slice up n.ops[j].2.length uc] 105))
          have hba := (Below.refl wr.heap.size wr).alloc (Nat.le_refl _) (.cells #[.int .u64 n.ops[j].1, .slice up n.ops[j].2.length uc] 105)
          have VC := Lib.hid (vecK n.ops[j].2 _ _ (hn.below hba))
          obtain ⟨tq, htq⟩ : ∃ x, x = (decide (n.ops[j].2.length = 0) || rightB n.ops[j].2) := ⟨_, rfl⟩
          rw [← htq] at VC
          have TQ := Lib.hid htq.symm
          clear hs2 hb hn hba htq
          cases s2
          · go_wp2_with fail
            go_roundg (n.ops.length - (j + 1))
            case measure => omega
            case rel => exact ⟨j + 1, rfl, by omega, by go_num, congrArg Value.bool (by rw [RS.out, Bool.not_or, ← Bool.and_assoc, HS.out]; rfl), BA.out⟩
          · by_cases hid : n.ops[j].1 ≤ 1099511627776
            · have PB := Lib.hid (show badOp n.ops[j] = !tq from by unfold badOp; rw [decide_eq_false (show ¬ 1099511627776 < n.ops[j].1 by omega), ← TQ.out, bareB_eq]; rfl)
              have xd : decide (n.ops[j].1 ≤ 1099511627776) = true := decide_eq_true hid
              go_wp2_with (with_reducible refine VC.out.mono ?_; rintro e w' ⟨rfl, rfl⟩)
              go_roundg (n.ops.length - (j + 1))
              case measure => omega
              case rel => exact ⟨j + 1, rfl, by omega, by go_num, congrArg Value.bool (by rw [RS.out, Bool.not_or, ← Bool.and_assoc, HS.out, PB.out]; simp), BA.out⟩
            · have PB := Lib.hid (show badOp n.ops[j] = true from by unfold badOp; rw [decide_eq_true (show 1099511627776 < n.ops[j].1 by omega)]; rfl)
              have xd : decide (n.ops[j].1 ≤ 1099511627776) = false := decide_eq_false hid
              go_wp2_with fail
              go_roundg (n.ops.length - (j + 1))
              case measure => omega
              case rel => exact ⟨j + 1, rfl, by omega, by go_num, congrArg Value.bool (by rw [RS.out, Bool.not_or, ← Bool.and_assoc, HS.out, PB.out]; rfl), BA.out⟩
        · obtain rfl : j = n.ops.length := by omega
          rw [List.take_length] at hs2
          have HP2 := Lib.hid (show (lensK n && partsB n.parts && !n.ops.any badOp) = s2 from by rw [HP.out]; exact hs2.symm)
          have z15' := below_cells hb z15
          have V2 := Lib.hid (V1.out.below hb)
          have BW2 := Lib.hid (BW.out.trans (hb.mono BW.out.size))
          clear hs2 hb HB HP V1 BW z12 z13 z15
          obtain ⟨wp, rfl⟩ : ∃ wp : World, wp = wr := ⟨_, rfl⟩
          go_wp2_with fail
          go_loopg [6, 202] n.hits.length (fun q s6 i wr => ∃ j : Nat, q = n.hits.length - j ∧ j ≤ n.hits.length ∧ i = .int .i64 j ∧ s6 = .bool (s2 && !(n.hits.take j).any badHit) ∧ Below wp.heap.size wp wr)
          case atStart => exact ⟨0, rfl, by omega, rfl, by simp, Below.refl _ _⟩
          case round =>
            obtain ⟨j, rfl, hj, rfl, rfl, hb⟩ := hrel
            obtain ⟨s3, hs3⟩ : ∃ x, x = (s2 && !(n.hits.take j).any badHit) := ⟨_, rfl⟩
            rw [← hs3]
            by_cases hlj : j < n.hits.length
            · have RS := Lib.hid (any_take_succ n.hits badHit j hlj)
              have HS := Lib.hid hs3.symm
              obtain ⟨rs', -, -, hel⟩ := (V2.out.hits.below hb).rows
              obtain ⟨b, off, up, uc, -, rfl, -, -, c0, c1, c2, hn, -⟩ := hel j hlj
              have k0 : (0 : Int) ≤ (j : Int) := by omega
              have k1 : (j : Int) < (n.hits.length : Int) := by omega
              have hx0 : 0 ≤ n.hits[j].id := (FT.out.hits _ (List.getElem_mem hlj)).1
              have BA := Lib.hid (hb.alloc hb.size (.cells #[.int .u64 n.hits[j].id, .int .u64 n.hits[j].dist, .slice up n.hits[j].vec.length uc] 40))
              have hba := (Below.refl wr.heap.size wr).alloc (Nat.le_refl _) (.cells #[.int .u64 n.hits[j].id, .int .u64 n.hits[j].dist, .slice up n.hits[j].vec.length uc] 40)
              have VC := Lib.hid (refRight n.hits[j].vec _ _ (hn.below hba))
              obtain ⟨tq, htq⟩ : ∃ x, x = rightB n.hits[j].vec := ⟨_, rfl⟩
              rw [← htq] at VC
              have TQ := Lib.hid htq.symm
              clear hs3 hb hn hba htq hel
              cases s3
              · go_wp2_with fail
                go_roundg (n.hits.length - (j + 1))
                case measure => omega
                case rel => exact ⟨j + 1, rfl, by omega, by go_num, congrArg Value.bool (by rw [RS.out, Bool.not_or, ← Bool.and_assoc, HS.out]; rfl), BA.out⟩
              · by_cases hid : n.hits[j].id ≤ 1099511627776
                · have PB := Lib.hid (show badHit n.hits[j] = !tq from by unfold badHit; rw [decide_eq_false (show ¬ 1099511627776 < n.hits[j].id by omega), ← TQ.out]; rfl)
                  have xd : decide (n.hits[j].id ≤ 1099511627776) = true := decide_eq_true hid
                  go_wp2_with (with_reducible refine VC.out.mono ?_; rintro e w' ⟨rfl, rfl⟩)
                  go_roundg (n.hits.length - (j + 1))
                  case measure => omega
                  case rel => exact ⟨j + 1, rfl, by omega, by go_num, congrArg Value.bool (by rw [RS.out, Bool.not_or, ← Bool.and_assoc, HS.out, PB.out]; simp), BA.out⟩
                · have PB := Lib.hid (show badHit n.hits[j] = true from by unfold badHit; rw [decide_eq_true (show 1099511627776 < n.hits[j].id by omega)]; rfl)
                  have xd : decide (n.hits[j].id ≤ 1099511627776) = false := decide_eq_false hid
                  go_wp2_with fail
                  go_roundg (n.hits.length - (j + 1))
                  case measure => omega
                  case rel => exact ⟨j + 1, rfl, by omega, by go_num, congrArg Value.bool (by rw [RS.out, Bool.not_or, ← Bool.and_assoc, HS.out, PB.out]; rfl), BA.out⟩
            · obtain rfl : j = n.hits.length := by omega
              rw [List.take_length] at hs3
              have HP3 := Lib.hid (show rgtB n = s3 from by unfold rgtB; rw [S1.out, Bool.true_and, HP2.out]; exact hs3.symm)
              have BF := Lib.hid (BW2.out.trans (hb.mono BW2.out.size))
              clear hs3 hb
              go_wp2_with fail
              go_ret
              exact ⟨ret_bool HP3.out.symm, BF.out⟩

end Go.Proofs.YtfmlhdikagogcaaDoor
