/-
  note: a kind's name and fields; which fields a note holds.
-/
import Derived.Test.YtfmlhdikagogcaaDoorJ09
namespace Go.Proofs.YtfmlhdikagogcaaDoor
open Go.ChangeShapes Go.WideShapes Go.ChangeAt Go.RowKit
set_option maxRecDepth 20000

/-- a note -/
structure Nt where
  kind : Int
  txn : Int
  batch : Int
  stamp : Int
  after : Int
  mark : Int
  query : Int
  id : Int
  k : Int
  ef : Int
  code : Int
  who : Int
  parts : List Int
  ops : List (Int × List Int)
  vec : List Int
  hits : List Hz

/-- its cells; its slices are values -/
def Nt.cells (n : Nt) (vp vo vv vh : Value) : Array Value := #[.int .u8 n.kind, .int .u64 n.txn, .int .u64 n.batch, .int .u64 n.stamp, .int .u64 n.after, .int .u64 n.mark, .int .u64 n.query, .int .u64 n.id, .int .i64 n.k, .int .i64 n.ef, .int .i64 n.code, .int .i64 n.who, vp, vo, vv, vh]

/-- which of its fields are not zero -/
def Nt.flags (n : Nt) : List Bool := [decide (0 < n.txn), decide (0 < n.batch), decide (0 < n.stamp), decide (0 < n.after), decide (0 < n.mark), decide (0 < n.query), decide (0 < n.id), n.k != 0, n.ef != 0, n.code != 0, n.who != 0, decide (0 < n.parts.length), decide (0 < n.ops.length), decide (0 < n.vec.length), decide (0 < n.hits.length)]

/-- the flags as bits -/
def heldN : List Bool → Nat → Nat
  | [], _ => 0
  | b :: r, i => (if b then 1 <<< i else 0) ||| heldN r (i + 1)

theorem heldN_lt (l : List Bool) (i : Nat) : heldN l i < 2 ^ (i + l.length) := by
  induction l generalizing i with
  | nil => exact Nat.two_pow_pos _
  | cons b r ih =>
    unfold heldN
    have h1 := ih (i + 1)
    rw [List.length_cons, show i + (r.length + 1) = i + 1 + r.length by omega]
    refine Nat.or_lt_two_pow ?_ h1
    split
    · rw [Nat.one_shiftLeft]; exact Nat.pow_lt_pow_right (by omega) (by omega)
    · exact Nat.two_pow_pos _

theorem heldN_snoc (l : List Bool) (b : Bool) (i : Nat) : heldN (l ++ [b]) i = heldN l i ||| (if b then 1 <<< (i + l.length) else 0) := by
  induction l generalizing i with
  | nil => simp [heldN]
  | cons a r ih =>
    rw [List.cons_append]
    unfold heldN
    rw [ih (i + 1), List.length_cons, show i + 1 + r.length = i + (r.length + 1) by omega, Nat.or_assoc]

theorem i64_or (a b : Nat) (ha : a < 9223372036854775808) (hb : b < 9223372036854775808) : bits .or .i64 (a : Int) (b : Int) = ((a ||| b : Nat) : Int) := by
  have hx : a ||| b < 2 ^ 63 := Nat.or_lt_two_pow (by omega) (by omega)
  have h1 : (BitVec.ofInt 64 (a : Int)).toNat = a := by rw [BitVec.toNat_ofInt]; omega
  have h2 : (BitVec.ofInt 64 (b : Int)).toNat = b := by rw [BitVec.toNat_ofInt]; omega
  show IntKind.i64.wrap ((BitVec.ofInt 64 (a : Int) ||| BitVec.ofInt 64 (b : Int)).toNat : Int) = _
  rw [BitVec.toNat_or, h1, h2]
  simp only [IntKind.wrap, IntKind.signed, IntKind.bits]
  simp
  omega

theorem sorted_in (W : World) (ht : Tab W) (k : Nat) (hk : k < tabZ.length) :
    Calls Tryd.prog 66 #[.int .u8 k] W fun e w' => e = .returned (.agg #[.string ⟨tabZ[k].1.toArray⟩, .int .i64 tabZ[k].2]) ∧ Below W.heap.size W w' := by
  have h23 : tabZ.length = 23 := rfl
  obtain ⟨c0, c1⟩ := ht k hk
  have k0 : (0 : Int) ≤ (k : Int) := by omega
  have k1 : (k : Int) < 23 := by omega
  clear ht
  have HB := Lib.hid ((Below.refl W.heap.size W).alloc (Nat.le_refl _) (Obj.cells #[Value.string ⟨#[]⟩, Value.int .i64 0] 134))
  have d0 := below_cells HB.out c0
  have d1 := below_cells HB.out c1
  generalize (tabZ[k]).1.toArray = nm at *
  generalize (tabZ[k]).2 = fl at *
  go_enter Tryd.func66, Tryd.ntmps66
  go_wp2_with fail
  go_returns
  exact ⟨rfl, (Below.refl _ _).alloc (Nat.le_refl _) _⟩

theorem sorted_out (W : World) (k : Int) (hk : 23 ≤ k) (hk2 : k ≤ 255) :
    Calls Tryd.prog 66 #[.int .u8 k] W fun e w' => e = .returned (.agg #[.string ⟨#[]⟩, .int .i64 0]) ∧ Below W.heap.size W w' := by
  have k0 : (0 : Int) ≤ k := by omega
  go_enter Tryd.func66, Tryd.ntmps66
  go_wp2_with fail
  go_returns
  exact ⟨rfl, (Below.refl _ _).alloc (Nat.le_refl _) _⟩

theorem index_flag (bs : List Value) (k : Nat) (hl : bs.length = 15) (hk : k < bs.length) (w : World) :
    (Instr.index 142 (.agg bs.toArray) (.int .i64 k)).run Tryd.prog w = .ok bs[k] w := by
  simp [Instr.index, run_underlying Tryd.underlying142, asIntOf, go_sem]
  rw [if_pos (by omega), List.getElem?_eq_getElem hk]
  rfl

theorem heldN_next {fl : List Bool} (k : Nat) (b : Bool) (_ : fl.length = 15) (hk : k < fl.length) (hb : fl[k] = b) : heldN (fl.take (k + 1)) 0 = heldN (fl.take k) 0 ||| (if b then 1 <<< k else 0) := by
  rw [List.take_succ_eq_append_getElem hk, heldN_snoc, hb, List.length_take, Nat.min_eq_left (by omega), Nat.zero_add]

set_option maxHeartbeats 4000000 in
theorem held (n : Nt) (p0 p1 p2 p3 : Option Addr) (q0 q1 q2 q3 : Nat) (W : World) (hl : n.parts.length ≤ 1000000 ∧ n.ops.length ≤ 1000000 ∧ n.vec.length ≤ 1000000 ∧ n.hits.length ≤ 1000000) :
    Calls Tryd.prog 67 #[.agg (n.cells (.slice p0 n.parts.length q0) (.slice p1 n.ops.length q1) (.slice p2 n.vec.length q2) (.slice p3 n.hits.length q3))] W fun e w' => e = .returned (.int .i64 (heldN n.flags 0)) ∧ Below W.heap.size W w' := by
  obtain ⟨h1, h2, h3, h4⟩ := hl
  have hfl : n.flags.length = 15 := rfl
  unfold Nt.cells
  go_enter Tryd.func67, Tryd.ntmps67
  go_wp2_with fail
  obtain ⟨W1, hW1⟩ : ∃ W1, W1 = W.alloc (.cells #[.int .u8 n.kind, .int .u64 n.txn, .int .u64 n.batch, .int .u64 n.stamp, .int .u64 n.after, .int .u64 n.mark, .int .u64 n.query, .int .u64 n.id, .int .i64 n.k, .int .i64 n.ef, .int .i64 n.code, .int .i64 n.who, .slice p0 n.parts.length q0, .slice p1 n.ops.length q1, .slice p2 n.vec.length q2, .slice p3 n.hits.length q3] 37) := ⟨_, rfl⟩
  have BW : Hid (Below W.heap.size W W1) := by rw [hW1]; exact (Below.refl _ _).alloc (Nat.le_refl _) _
  rw [← hW1]
  clear hW1
  have E := Lib.hid (show n.flags = [decide (0 < n.txn), decide (0 < n.batch), decide (0 < n.stamp), decide (0 < n.after), decide (0 < n.mark), decide (0 < n.query), decide (0 < n.id), n.k != 0, n.ef != 0, n.code != 0, n.who != 0, decide (0 < n.parts.length), decide (0 < n.ops.length), decide (0 < n.vec.length), decide (0 < n.hits.length)] from rfl)
  clear hfl
  generalize decide (0 < n.txn) = b0 at E ⊢
  generalize decide (0 < n.batch) = b1 at E ⊢
  generalize decide (0 < n.stamp) = b2 at E ⊢
  generalize decide (0 < n.after) = b3 at E ⊢
  generalize decide (0 < n.mark) = b4 at E ⊢
  generalize decide (0 < n.query) = b5 at E ⊢
  generalize decide (0 < n.id) = b6 at E ⊢
  generalize (n.k != 0) = b7 at E ⊢
  generalize (n.ef != 0) = b8 at E ⊢
  generalize (n.code != 0) = b9 at E ⊢
  generalize (n.who != 0) = b10 at E ⊢
  generalize decide (0 < n.parts.length) = b11 at E ⊢
  generalize decide (0 < n.ops.length) = b12 at E ⊢
  generalize decide (0 < n.vec.length) = b13 at E ⊢
  generalize decide (0 < n.hits.length) = b14 at E ⊢
  go_loopg [3, 56] 15 (fun q' acc i wr => ∃ k : Nat, q' = 15 - k ∧ k ≤ 15 ∧ i = .int .i64 k ∧ acc = .int .i64 (heldN ([b0, b1, b2, b3, b4, b5, b6, b7, b8, b9, b10, b11, b12, b13, b14].take k) 0) ∧ wr = W1)
  case atStart => exact ⟨0, rfl, by omega, rfl, rfl, rfl⟩
  case round =>
    obtain ⟨k, rfl, hk, rfl, rfl, rfl⟩ := hrel
    have hc : k = 0 ∨ k = 1 ∨ k = 2 ∨ k = 3 ∨ k = 4 ∨ k = 5 ∨ k = 6 ∨ k = 7 ∨ k = 8 ∨ k = 9 ∨ k = 10 ∨ k = 11 ∨ k = 12 ∨ k = 13 ∨ k = 14 ∨ k = 15 := by omega
    rcases hc with rfl | rfl | rfl | rfl | rfl | rfl | rfl | rfl | rfl | rfl | rfl | rfl | rfl | rfl | rfl | rfl
    · have hlt := heldN_lt ([b0, b1, b2, b3, b4, b5, b6, b7, b8, b9, b10, b11, b12, b13, b14].take 0) 0
      have hnx := heldN_next (fl := [b0, b1, b2, b3, b4, b5, b6, b7, b8, b9, b10, b11, b12, b13, b14]) 0 b0 rfl (by simp) rfl
      generalize hac : heldN ([b0, b1, b2, b3, b4, b5, b6, b7, b8, b9, b10, b11, b12, b13, b14].take 0) 0 = acc at *
      have hacc : acc < 32768 := Nat.lt_of_lt_of_le hlt (by simp)
      clear hlt
      have ho : bits .or .i64 (acc : Int) 1 = ((acc ||| 1 : Nat) : Int) := i64_or acc 1 (by omega) (by decide)
      have hix : ∀ w, (Instr.index 142 (.agg #[.bool b0, .bool b1, .bool b2, .bool b3, .bool b4, .bool b5, .bool b6, .bool b7, .bool b8, .bool b9, .bool b10, .bool b11, .bool b12, .bool b13, .bool b14]) (.int .i64 0)).run Tryd.prog w = .ok (.bool b0) w := fun w => index_flag [.bool b0, .bool b1, .bool b2, .bool b3, .bool b4, .bool b5, .bool b6, .bool b7, .bool b8, .bool b9, .bool b10, .bool b11, .bool b12, .bool b13, .bool b14] 0 rfl (by simp) w
      have N := Lib.hid hnx
      clear hnx hac
      cases b0
      · go_wp2_with fail
        go_roundg (15 - (0 + 1))
        case measure => decide
        case rel => exact ⟨0 + 1, rfl, by decide, rfl, by rw [N.out]; simp, rfl⟩
      · go_wp2_with fail
        go_roundg (15 - (0 + 1))
        case measure => decide
        case rel => exact ⟨0 + 1, rfl, by decide, rfl, by rw [N.out]; rfl, rfl⟩
    · have hlt := heldN_lt ([b0, b1, b2, b3, b4, b5, b6, b7, b8, b9, b10, b11, b12, b13, b14].take 1) 0
      have hnx := heldN_next (fl := [b0, b1, b2, b3, b4, b5, b6, b7, b8, b9, b10, b11, b12, b13, b14]) 1 b1 rfl (by simp) rfl
      generalize hac : heldN ([b0, b1, b2, b3, b4, b5, b6, b7, b8, b9, b10, b11, b12, b13, b14].take 1) 0 = acc at *
      have hacc : acc < 32768 := Nat.lt_of_lt_of_le hlt (by simp)
      clear hlt
      have ho : bits .or .i64 (acc : Int) 2 = ((acc ||| 2 : Nat) : Int) := i64_or acc 2 (by omega) (by decide)
      have hix : ∀ w, (Instr.index 142 (.agg #[.bool b0, .bool b1, .bool b2, .bool b3, .bool b4, .bool b5, .bool b6, .bool b7, .bool b8, .bool b9, .bool b10, .bool b11, .bool b12, .bool b13, .bool b14]) (.int .i64 1)).run Tryd.prog w = .ok (.bool b1) w := fun w => index_flag [.bool b0, .bool b1, .bool b2, .bool b3, .bool b4, .bool b5, .bool b6, .bool b7, .bool b8, .bool b9, .bool b10, .bool b11, .bool b12, .bool b13, .bool b14] 1 rfl (by simp) w
      have N := Lib.hid hnx
      clear hnx hac
      cases b1
      · go_wp2_with fail
        go_roundg (15 - (1 + 1))
        case measure => decide
        case rel => exact ⟨1 + 1, rfl, by decide, rfl, by rw [N.out]; simp, rfl⟩
      · go_wp2_with fail
        go_roundg (15 - (1 + 1))
        case measure => decide
        case rel => exact ⟨1 + 1, rfl, by decide, rfl, by rw [N.out]; rfl, rfl⟩
    · have hlt := heldN_lt ([b0, b1, b2, b3, b4, b5, b6, b7, b8, b9, b10, b11, b12, b13, b14].take 2) 0
      have hnx := heldN_next (fl := [b0, b1, b2, b3, b4, b5, b6, b7, b8, b9, b10, b11, b12, b13, b14]) 2 b2 rfl (by simp) rfl
      generalize hac : heldN ([b0, b1, b2, b3, b4, b5, b6, b7, b8, b9, b10, b11, b12, b13, b14].take 2) 0 = acc at *
      have hacc : acc < 32768 := Nat.lt_of_lt_of_le hlt (by simp)
      clear hlt
      have ho : bits .or .i64 (acc : Int) 4 = ((acc ||| 4 : Nat) : Int) := i64_or acc 4 (by omega) (by decide)
      have hix : ∀ w, (Instr.index 142 (.agg #[.bool b0, .bool b1, .bool b2, .bool b3, .bool b4, .bool b5, .bool b6, .bool b7, .bool b8, .bool b9, .bool b10, .bool b11, .bool b12, .bool b13, .bool b14]) (.int .i64 2)).run Tryd.prog w = .ok (.bool b2) w := fun w => index_flag [.bool b0, .bool b1, .bool b2, .bool b3, .bool b4, .bool b5, .bool b6, .bool b7, .bool b8, .bool b9, .bool b10, .bool b11, .bool b12, .bool b13, .bool b14] 2 rfl (by simp) w
      have N := Lib.hid hnx
      clear hnx hac
      cases b2
      · go_wp2_with fail
        go_roundg (15 - (2 + 1))
        case measure => decide
        case rel => exact ⟨2 + 1, rfl, by decide, rfl, by rw [N.out]; simp, rfl⟩
      · go_wp2_with fail
        go_roundg (15 - (2 + 1))
        case measure => decide
        case rel => exact ⟨2 + 1, rfl, by decide, rfl, by rw [N.out]; rfl, rfl⟩
    · have hlt := heldN_lt ([b0, b1, b2, b3, b4, b5, b6, b7, b8, b9, b10, b11, b12, b13, b14].take 3) 0
      have hnx := heldN_next (fl := [b0, b1, b2, b3, b4, b5, b6, b7, b8, b9, b10, b11, b12, b13, b14]) 3 b3 rfl (by simp) rfl
      generalize hac : heldN ([b0, b1, b2, b3, b4, b5, b6, b7, b8, b9, b10, b11, b12, b13, b14].take 3) 0 = acc at *
      have hacc : acc < 32768 := Nat.lt_of_lt_of_le hlt (by simp)
      clear hlt
      have ho : bits .or .i64 (acc : Int) 8 = ((acc ||| 8 : Nat) : Int) := i64_or acc 8 (by omega) (by decide)
      have hix : ∀ w, (Instr.index 142 (.agg #[.bool b0, .bool b1, .bool b2, .bool b3, .bool b4, .bool b5, .bool b6, .bool b7, .bool b8, .bool b9, .bool b10, .bool b11, .bool b12, .bool b13, .bool b14]) (.int .i64 3)).run Tryd.prog w = .ok (.bool b3) w := fun w => index_flag [.bool b0, .bool b1, .bool b2, .bool b3, .bool b4, .bool b5, .bool b6, .bool b7, .bool b8, .bool b9, .bool b10, .bool b11, .bool b12, .bool b13, .bool b14] 3 rfl (by simp) w
      have N := Lib.hid hnx
      clear hnx hac
      cases b3
      · go_wp2_with fail
        go_roundg (15 - (3 + 1))
        case measure => decide
        case rel => exact ⟨3 + 1, rfl, by decide, rfl, by rw [N.out]; simp, rfl⟩
      · go_wp2_with fail
        go_roundg (15 - (3 + 1))
        case measure => decide
        case rel => exact ⟨3 + 1, rfl, by decide, rfl, by rw [N.out]; rfl, rfl⟩
    · have hlt := heldN_lt ([b0, b1, b2, b3, b4, b5, b6, b7, b8, b9, b10, b11, b12, b13, b14].take 4) 0
      have hnx := heldN_next (fl := [b0, b1, b2, b3, b4, b5, b6, b7, b8, b9, b10, b11, b12, b13, b14]) 4 b4 rfl (by simp) rfl
      generalize hac : heldN ([b0, b1, b2, b3, b4, b5, b6, b7, b8, b9, b10, b11, b12, b13, b14].take 4) 0 = acc at *
      have hacc : acc < 32768 := Nat.lt_of_lt_of_le hlt (by simp)
      clear hlt
      have ho : bits .or .i64 (acc : Int) 16 = ((acc ||| 16 : Nat) : Int) := i64_or acc 16 (by omega) (by decide)
      have hix : ∀ w, (Instr.index 142 (.agg #[.bool b0, .bool b1, .bool b2, .bool b3, .bool b4, .bool b5, .bool b6, .bool b7, .bool b8, .bool b9, .bool b10, .bool b11, .bool b12, .bool b13, .bool b14]) (.int .i64 4)).run Tryd.prog w = .ok (.bool b4) w := fun w => index_flag [.bool b0, .bool b1, .bool b2, .bool b3, .bool b4, .bool b5, .bool b6, .bool b7, .bool b8, .bool b9, .bool b10, .bool b11, .bool b12, .bool b13, .bool b14] 4 rfl (by simp) w
      have N := Lib.hid hnx
      clear hnx hac
      cases b4
      · go_wp2_with fail
        go_roundg (15 - (4 + 1))
        case measure => decide
        case rel => exact ⟨4 + 1, rfl, by decide, rfl, by rw [N.out]; simp, rfl⟩
      · go_wp2_with fail
        go_roundg (15 - (4 + 1))
        case measure => decide
        case rel => exact ⟨4 + 1, rfl, by decide, rfl, by rw [N.out]; rfl, rfl⟩
    · have hlt := heldN_lt ([b0, b1, b2, b3, b4, b5, b6, b7, b8, b9, b10, b11, b12, b13, b14].take 5) 0
      have hnx := heldN_next (fl := [b0, b1, b2, b3, b4, b5, b6, b7, b8, b9, b10, b11, b12, b13, b14]) 5 b5 rfl (by simp) rfl
      generalize hac : heldN ([b0, b1, b2, b3, b4, b5, b6, b7, b8, b9, b10, b11, b12, b13, b14].take 5) 0 = acc at *
      have hacc : acc < 32768 := Nat.lt_of_lt_of_le hlt (by simp)
      clear hlt
      have ho : bits .or .i64 (acc : Int) 32 = ((acc ||| 32 : Nat) : Int) := i64_or acc 32 (by omega) (by decide)
      have hix : ∀ w, (Instr.index 142 (.agg #[.bool b0, .bool b1, .bool b2, .bool b3, .bool b4, .bool b5, .bool b6, .bool b7, .bool b8, .bool b9, .bool b10, .bool b11, .bool b12, .bool b13, .bool b14]) (.int .i64 5)).run Tryd.prog w = .ok (.bool b5) w := fun w => index_flag [.bool b0, .bool b1, .bool b2, .bool b3, .bool b4, .bool b5, .bool b6, .bool b7, .bool b8, .bool b9, .bool b10, .bool b11, .bool b12, .bool b13, .bool b14] 5 rfl (by simp) w
      have N := Lib.hid hnx
      clear hnx hac
      cases b5
      · go_wp2_with fail
        go_roundg (15 - (5 + 1))
        case measure => decide
        case rel => exact ⟨5 + 1, rfl, by decide, rfl, by rw [N.out]; simp, rfl⟩
      · go_wp2_with fail
        go_roundg (15 - (5 + 1))
        case measure => decide
        case rel => exact ⟨5 + 1, rfl, by decide, rfl, by rw [N.out]; rfl, rfl⟩
    · have hlt := heldN_lt ([b0, b1, b2, b3, b4, b5, b6, b7, b8, b9, b10, b11, b12, b13, b14].take 6) 0
      have hnx := heldN_next (fl := [b0, b1, b2, b3, b4, b5, b6, b7, b8, b9, b10, b11, b12, b13, b14]) 6 b6 rfl (by simp) rfl
      generalize hac : heldN ([b0, b1, b2, b3, b4, b5, b6, b7, b8, b9, b10, b11, b12, b13, b14].take 6) 0 = acc at *
      have hacc : acc < 32768 := Nat.lt_of_lt_of_le hlt (by simp)
      clear hlt
      have ho : bits .or .i64 (acc : Int) 64 = ((acc ||| 64 : Nat) : Int) := i64_or acc 64 (by omega) (by decide)
      have hix : ∀ w, (Instr.index 142 (.agg #[.bool b0, .bool b1, .bool b2, .bool b3, .bool b4, .bool b5, .bool b6, .bool b7, .bool b8, .bool b9, .bool b10, .bool b11, .bool b12, .bool b13, .bool b14]) (.int .i64 6)).run Tryd.prog w = .ok (.bool b6) w := fun w => index_flag [.bool b0, .bool b1, .bool b2, .bool b3, .bool b4, .bool b5, .bool b6, .bool b7, .bool b8, .bool b9, .bool b10, .bool b11, .bool b12, .bool b13, .bool b14] 6 rfl (by simp) w
      have N := Lib.hid hnx
      clear hnx hac
      cases b6
      · go_wp2_with fail
        go_roundg (15 - (6 + 1))
        case measure => decide
        case rel => exact ⟨6 + 1, rfl, by decide, rfl, by rw [N.out]; simp, rfl⟩
      · go_wp2_with fail
        go_roundg (15 - (6 + 1))
        case measure => decide
        case rel => exact ⟨6 + 1, rfl, by decide, rfl, by rw [N.out]; rfl, rfl⟩
    · have hlt := heldN_lt ([b0, b1, b2, b3, b4, b5, b6, b7, b8, b9, b10, b11, b12, b13, b14].take 7) 0
      have hnx := heldN_next (fl := [b0, b1, b2, b3, b4, b5, b6, b7, b8, b9, b10, b11, b12, b13, b14]) 7 b7 rfl (by simp) rfl
      generalize hac : heldN ([b0, b1, b2, b3, b4, b5, b6, b7, b8, b9, b10, b11, b12, b13, b14].take 7) 0 = acc at *
      have hacc : acc < 32768 := Nat.lt_of_lt_of_le hlt (by simp)
      clear hlt
      have ho : bits .or .i64 (acc : Int) 128 = ((acc ||| 128 : Nat) : Int) := i64_or acc 128 (by omega) (by decide)
      have hix : ∀ w, (Instr.index 142 (.agg #[.bool b0, .bool b1, .bool b2, .bool b3, .bool b4, .bool b5, .bool b6, .bool b7, .bool b8, .bool b9, .bool b10, .bool b11, .bool b12, .bool b13, .bool b14]) (.int .i64 7)).run Tryd.prog w = .ok (.bool b7) w := fun w => index_flag [.bool b0, .bool b1, .bool b2, .bool b3, .bool b4, .bool b5, .bool b6, .bool b7, .bool b8, .bool b9, .bool b10, .bool b11, .bool b12, .bool b13, .bool b14] 7 rfl (by simp) w
      have N := Lib.hid hnx
      clear hnx hac
      cases b7
      · go_wp2_with fail
        go_roundg (15 - (7 + 1))
        case measure => decide
        case rel => exact ⟨7 + 1, rfl, by decide, rfl, by rw [N.out]; simp, rfl⟩
      · go_wp2_with fail
        go_roundg (15 - (7 + 1))
        case measure => decide
        case rel => exact ⟨7 + 1, rfl, by decide, rfl, by rw [N.out]; rfl, rfl⟩
    · have hlt := heldN_lt ([b0, b1, b2, b3, b4, b5, b6, b7, b8, b9, b10, b11, b12, b13, b14].take 8) 0
      have hnx := heldN_next (fl := [b0, b1, b2, b3, b4, b5, b6, b7, b8, b9, b10, b11, b12, b13, b14]) 8 b8 rfl (by simp) rfl
      generalize hac : heldN ([b0, b1, b2, b3, b4, b5, b6, b7, b8, b9, b10, b11, b12, b13, b14].take 8) 0 = acc at *
      have hacc : acc < 32768 := Nat.lt_of_lt_of_le hlt (by simp)
      clear hlt
      have ho : bits .or .i64 (acc : Int) 256 = ((acc ||| 256 : Nat) : Int) := i64_or acc 256 (by omega) (by decide)
      have hix : ∀ w, (Instr.index 142 (.agg #[.bool b0, .bool b1, .bool b2, .bool b3, .bool b4, .bool b5, .bool b6, .bool b7, .bool b8, .bool b9, .bool b10, .bool b11, .bool b12, .bool b13, .bool b14]) (.int .i64 8)).run Tryd.prog w = .ok (.bool b8) w := fun w => index_flag [.bool b0, .bool b1, .bool b2, .bool b3, .bool b4, .bool b5, .bool b6, .bool b7, .bool b8, .bool b9, .bool b10, .bool b11, .bool b12, .bool b13, .bool b14] 8 rfl (by simp) w
      have N := Lib.hid hnx
      clear hnx hac
      cases b8
      · go_wp2_with fail
        go_roundg (15 - (8 + 1))
        case measure => decide
        case rel => exact ⟨8 + 1, rfl, by decide, rfl, by rw [N.out]; simp, rfl⟩
      · go_wp2_with fail
        go_roundg (15 - (8 + 1))
        case measure => decide
        case rel => exact ⟨8 + 1, rfl, by decide, rfl, by rw [N.out]; rfl, rfl⟩
    · have hlt := heldN_lt ([b0, b1, b2, b3, b4, b5, b6, b7, b8, b9, b10, b11, b12, b13, b14].take 9) 0
      have hnx := heldN_next (fl := [b0, b1, b2, b3, b4, b5, b6, b7, b8, b9, b10, b11, b12, b13, b14]) 9 b9 rfl (by simp) rfl
      generalize hac : heldN ([b0, b1, b2, b3, b4, b5, b6, b7, b8, b9, b10, b11, b12, b13, b14].take 9) 0 = acc at *
      have hacc : acc < 32768 := Nat.lt_of_lt_of_le hlt (by simp)
      clear hlt
      have ho : bits .or .i64 (acc : Int) 512 = ((acc ||| 512 : Nat) : Int) := i64_or acc 512 (by omega) (by decide)
      have hix : ∀ w, (Instr.index 142 (.agg #[.bool b0, .bool b1, .bool b2, .bool b3, .bool b4, .bool b5, .bool b6, .bool b7, .bool b8, .bool b9, .bool b10, .bool b11, .bool b12, .bool b13, .bool b14]) (.int .i64 9)).run Tryd.prog w = .ok (.bool b9) w := fun w => index_flag [.bool b0, .bool b1, .bool b2, .bool b3, .bool b4, .bool b5, .bool b6, .bool b7, .bool b8, .bool b9, .bool b10, .bool b11, .bool b12, .bool b13, .bool b14] 9 rfl (by simp) w
      have N := Lib.hid hnx
      clear hnx hac
      cases b9
      · go_wp2_with fail
        go_roundg (15 - (9 + 1))
        case measure => decide
        case rel => exact ⟨9 + 1, rfl, by decide, rfl, by rw [N.out]; simp, rfl⟩
      · go_wp2_with fail
        go_roundg (15 - (9 + 1))
        case measure => decide
        case rel => exact ⟨9 + 1, rfl, by decide, rfl, by rw [N.out]; rfl, rfl⟩
    · have hlt := heldN_lt ([b0, b1, b2, b3, b4, b5, b6, b7, b8, b9, b10, b11, b12, b13, b14].take 10) 0
      have hnx := heldN_next (fl := [b0, b1, b2, b3, b4, b5, b6, b7, b8, b9, b10, b11, b12, b13, b14]) 10 b10 rfl (by simp) rfl
      generalize hac : heldN ([b0, b1, b2, b3, b4, b5, b6, b7, b8, b9, b10, b11, b12, b13, b14].take 10) 0 = acc at *
      have hacc : acc < 32768 := Nat.lt_of_lt_of_le hlt (by simp)
      clear hlt
      have ho : bits .or .i64 (acc : Int) 1024 = ((acc ||| 1024 : Nat) : Int) := i64_or acc 1024 (by omega) (by decide)
      have hix : ∀ w, (Instr.index 142 (.agg #[.bool b0, .bool b1, .bool b2, .bool b3, .bool b4, .bool b5, .bool b6, .bool b7, .bool b8, .bool b9, .bool b10, .bool b11, .bool b12, .bool b13, .bool b14]) (.int .i64 10)).run Tryd.prog w = .ok (.bool b10) w := fun w => index_flag [.bool b0, .bool b1, .bool b2, .bool b3, .bool b4, .bool b5, .bool b6, .bool b7, .bool b8, .bool b9, .bool b10, .bool b11, .bool b12, .bool b13, .bool b14] 10 rfl (by simp) w
      have N := Lib.hid hnx
      clear hnx hac
      cases b10
      · go_wp2_with fail
        go_roundg (15 - (10 + 1))
        case measure => decide
        case rel => exact ⟨10 + 1, rfl, by decide, rfl, by rw [N.out]; simp, rfl⟩
      · go_wp2_with fail
        go_roundg (15 - (10 + 1))
        case measure => decide
        case rel => exact ⟨10 + 1, rfl, by decide, rfl, by rw [N.out]; rfl, rfl⟩
    · have hlt := heldN_lt ([b0, b1, b2, b3, b4, b5, b6, b7, b8, b9, b10, b11, b12, b13, b14].take 11) 0
      have hnx := heldN_next (fl := [b0, b1, b2, b3, b4, b5, b6, b7, b8, b9, b10, b11, b12, b13, b14]) 11 b11 rfl (by simp) rfl
      generalize hac : heldN ([b0, b1, b2, b3, b4, b5, b6, b7, b8, b9, b10, b11, b12, b13, b14].take 11) 0 = acc at *
      have hacc : acc < 32768 := Nat.lt_of_lt_of_le hlt (by simp)
      clear hlt
      have ho : bits .or .i64 (acc : Int) 2048 = ((acc ||| 2048 : Nat) : Int) := i64_or acc 2048 (by omega) (by decide)
      have hix : ∀ w, (Instr.index 142 (.agg #[.bool b0, .bool b1, .bool b2, .bool b3, .bool b4, .bool b5, .bool b6, .bool b7, .bool b8, .bool b9, .bool b10, .bool b11, .bool b12, .bool b13, .bool b14]) (.int .i64 11)).run Tryd.prog w = .ok (.bool b11) w := fun w => index_flag [.bool b0, .bool b1, .bool b2, .bool b3, .bool b4, .bool b5, .bool b6, .bool b7, .bool b8, .bool b9, .bool b10, .bool b11, .bool b12, .bool b13, .bool b14] 11 rfl (by simp) w
      have N := Lib.hid hnx
      clear hnx hac
      cases b11
      · go_wp2_with fail
        go_roundg (15 - (11 + 1))
        case measure => decide
        case rel => exact ⟨11 + 1, rfl, by decide, rfl, by rw [N.out]; simp, rfl⟩
      · go_wp2_with fail
        go_roundg (15 - (11 + 1))
        case measure => decide
        case rel => exact ⟨11 + 1, rfl, by decide, rfl, by rw [N.out]; rfl, rfl⟩
    · have hlt := heldN_lt ([b0, b1, b2, b3, b4, b5, b6, b7, b8, b9, b10, b11, b12, b13, b14].take 12) 0
      have hnx := heldN_next (fl := [b0, b1, b2, b3, b4, b5, b6, b7, b8, b9, b10, b11, b12, b13, b14]) 12 b12 rfl (by simp) rfl
      generalize hac : heldN ([b0, b1, b2, b3, b4, b5, b6, b7, b8, b9, b10, b11, b12, b13, b14].take 12) 0 = acc at *
      have hacc : acc < 32768 := Nat.lt_of_lt_of_le hlt (by simp)
      clear hlt
      have ho : bits .or .i64 (acc : Int) 4096 = ((acc ||| 4096 : Nat) : Int) := i64_or acc 4096 (by omega) (by decide)
      have hix : ∀ w, (Instr.index 142 (.agg #[.bool b0, .bool b1, .bool b2, .bool b3, .bool b4, .bool b5, .bool b6, .bool b7, .bool b8, .bool b9, .bool b10, .bool b11, .bool b12, .bool b13, .bool b14]) (.int .i64 12)).run Tryd.prog w = .ok (.bool b12) w := fun w => index_flag [.bool b0, .bool b1, .bool b2, .bool b3, .bool b4, .bool b5, .bool b6, .bool b7, .bool b8, .bool b9, .bool b10, .bool b11, .bool b12, .bool b13, .bool b14] 12 rfl (by simp) w
      have N := Lib.hid hnx
      clear hnx hac
      cases b12
      · go_wp2_with fail
        go_roundg (15 - (12 + 1))
        case measure => decide
        case rel => exact ⟨12 + 1, rfl, by decide, rfl, by rw [N.out]; simp, rfl⟩
      · go_wp2_with fail
        go_roundg (15 - (12 + 1))
        case measure => decide
        case rel => exact ⟨12 + 1, rfl, by decide, rfl, by rw [N.out]; rfl, rfl⟩
    · have hlt := heldN_lt ([b0, b1, b2, b3, b4, b5, b6, b7, b8, b9, b10, b11, b12, b13, b14].take 13) 0
      have hnx := heldN_next (fl := [b0, b1, b2, b3, b4, b5, b6, b7, b8, b9, b10, b11, b12, b13, b14]) 13 b13 rfl (by simp) rfl
      generalize hac : heldN ([b0, b1, b2, b3, b4, b5, b6, b7, b8, b9, b10, b11, b12, b13, b14].take 13) 0 = acc at *
      have hacc : acc < 32768 := Nat.lt_of_lt_of_le hlt (by simp)
      clear hlt
      have ho : bits .or .i64 (acc : Int) 8192 = ((acc ||| 8192 : Nat) : Int) := i64_or acc 8192 (by omega) (by decide)
      have hix : ∀ w, (Instr.index 142 (.agg #[.bool b0, .bool b1, .bool b2, .bool b3, .bool b4, .bool b5, .bool b6, .bool b7, .bool b8, .bool b9, .bool b10, .bool b11, .bool b12, .bool b13, .bool b14]) (.int .i64 13)).run Tryd.prog w = .ok (.bool b13) w := fun w => index_flag [.bool b0, .bool b1, .bool b2, .bool b3, .bool b4, .bool b5, .bool b6, .bool b7, .bool b8, .bool b9, .bool b10, .bool b11, .bool b12, .bool b13, .bool b14] 13 rfl (by simp) w
      have N := Lib.hid hnx
      clear hnx hac
      cases b13
      · go_wp2_with fail
        go_roundg (15 - (13 + 1))
        case measure => decide
        case rel => exact ⟨13 + 1, rfl, by decide, rfl, by rw [N.out]; simp, rfl⟩
      · go_wp2_with fail
        go_roundg (15 - (13 + 1))
        case measure => decide
        case rel => exact ⟨13 + 1, rfl, by decide, rfl, by rw [N.out]; rfl, rfl⟩
    · have hlt := heldN_lt ([b0, b1, b2, b3, b4, b5, b6, b7, b8, b9, b10, b11, b12, b13, b14].take 14) 0
      have hnx := heldN_next (fl := [b0, b1, b2, b3, b4, b5, b6, b7, b8, b9, b10, b11, b12, b13, b14]) 14 b14 rfl (by simp) rfl
      generalize hac : heldN ([b0, b1, b2, b3, b4, b5, b6, b7, b8, b9, b10, b11, b12, b13, b14].take 14) 0 = acc at *
      have hacc : acc < 32768 := Nat.lt_of_lt_of_le hlt (by simp)
      clear hlt
      have ho : bits .or .i64 (acc : Int) 16384 = ((acc ||| 16384 : Nat) : Int) := i64_or acc 16384 (by omega) (by decide)
      have hix : ∀ w, (Instr.index 142 (.agg #[.bool b0, .bool b1, .bool b2, .bool b3, .bool b4, .bool b5, .bool b6, .bool b7, .bool b8, .bool b9, .bool b10, .bool b11, .bool b12, .bool b13, .bool b14]) (.int .i64 14)).run Tryd.prog w = .ok (.bool b14) w := fun w => index_flag [.bool b0, .bool b1, .bool b2, .bool b3, .bool b4, .bool b5, .bool b6, .bool b7, .bool b8, .bool b9, .bool b10, .bool b11, .bool b12, .bool b13, .bool b14] 14 rfl (by simp) w
      have N := Lib.hid hnx
      clear hnx hac
      cases b14
      · go_wp2_with fail
        go_roundg (15 - (14 + 1))
        case measure => decide
        case rel => exact ⟨14 + 1, rfl, by decide, rfl, by rw [N.out]; simp, rfl⟩
      · go_wp2_with fail
        go_roundg (15 - (14 + 1))
        case measure => decide
        case rel => exact ⟨14 + 1, rfl, by decide, rfl, by rw [N.out]; rfl, rfl⟩
    · rw [List.take_of_length_le (by simp)]
      go_wp2_with fail
      go_ret
      rw [E.out]
      exact ⟨rfl, BW.out⟩

end Go.Proofs.YtfmlhdikagogcaaDoor
