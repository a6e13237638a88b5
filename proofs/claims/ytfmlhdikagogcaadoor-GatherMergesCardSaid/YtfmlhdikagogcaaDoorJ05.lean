/-
  note: is nothing too great? The closures over ops and hits.
-/
import Derived.Test.YtfmlhdikagogcaaDoorJ03
import Derived.Test.YtfmlhdikagogcaaDoorJ04
namespace Go.Proofs.YtfmlhdikagogcaaDoor
open Go.RowKit
set_option maxRecDepth 20000

def bareB (xs : List Int) : Bool := xs.length == 0 || rightB xs

theorem bare (xs : List Int) (v : Value) (w : World) (h : Nums w .i32 v xs) :
    Calls Tryd.prog 71 #[v] w fun e w' => e = .returned (.bool (bareB xs)) ∧ w = w' := by
  obtain ⟨p, cap, rfl, hcap, hbig, -, hc⟩ := h.slice
  have hl : xs.length ≤ 9223372036854775807 := by omega
  have R := Lib.hid (vRight xs _ w h)
  clear h hcap hbig hc
  cases h0 : xs.length == 0
  · have hz : ((xs.length : Int) == 0) = false := by rw [beq_eq_false_iff_ne] at h0 ⊢; omega
    have E := Lib.hid h0
    clear h0
    go_enter Tryd.func71, Tryd.ntmps71
    go_wp2_with fail
    refine R.out.mono ?_
    rintro e w' ⟨rfl, rfl⟩
    go_wp2_with fail
    go_ret
    exact ⟨ret_bool (by simp [bareB, E.out]), rfl⟩
  · have hz : ((xs.length : Int) == 0) = true := by rw [beq_iff_eq] at h0 ⊢; omega
    have E := Lib.hid h0
    clear h0
    go_enter Tryd.func71, Tryd.ntmps71
    go_wp2_with fail
    go_ret
    exact ⟨ret_bool (by simp [bareB, E.out]), rfl⟩

/-- an op that is too great -/
def badOp (o : Int × List Int) : Bool := decide (1099511627776 < o.1) || !bareB o.2
/-- a hit that is too great -/
def badHit (h : Hz) : Bool := decide (1099511627776 < h.id) || !rightB h.vec

theorem bounded1 (i : Int) (xs : List Int) (u : Value) (w : World) (h : Nums w .i32 u xs) :
    Calls Tryd.prog 73 #[.agg #[.int .u64 i, u]] w fun e w' => e = .returned (.bool (badOp (i, xs))) ∧ Below w.heap.size w w' := by
  obtain ⟨p, cap, rfl, -, -, -, -⟩ := h.slice
  have HB := Lib.hid ((Below.refl w.heap.size w).alloc (Nat.le_refl _) (Obj.cells #[.int .u64 i, .slice p xs.length cap] 105))
  have R := Lib.hid (bare xs _ _ (h.below HB.out))
  clear h
  cases h1 : decide (1099511627776 < i)
  · have E := Lib.hid h1
    have h1' : ¬ 1099511627776 < i := of_decide_eq_false h1
    clear h1
    go_enter Tryd.func73, Tryd.ntmps73
    go_wp2_with fail
    refine R.out.mono ?_
    rintro e w' ⟨rfl, rfl⟩
    go_wp2_with fail
    go_ret
    exact ⟨ret_bool (by simp [badOp, E.out]), HB.out⟩
  · have E := Lib.hid h1
    have h1' : 1099511627776 < i := of_decide_eq_true h1
    clear h1
    go_enter Tryd.func73, Tryd.ntmps73
    go_wp2_with fail
    go_ret
    exact ⟨ret_bool (by simp [badOp, E.out]), HB.out⟩

theorem bounded2 (i d : Int) (xs : List Int) (u : Value) (w : World) (h : Nums w .i32 u xs) :
    Calls Tryd.prog 75 #[.agg #[.int .u64 i, .int .u64 d, u]] w fun e w' => e = .returned (.bool (badHit ⟨i, d, xs⟩)) ∧ Below w.heap.size w w' := by
  obtain ⟨p, cap, rfl, -, -, -, -⟩ := h.slice
  have HB := Lib.hid ((Below.refl w.heap.size w).alloc (Nat.le_refl _) (Obj.cells #[.int .u64 i, .int .u64 d, .slice p xs.length cap] 40))
  have R := Lib.hid (vRight xs _ _ (h.below HB.out))
  clear h
  cases h1 : decide (1099511627776 < i)
  · have E := Lib.hid h1
    have h1' : ¬ 1099511627776 < i := of_decide_eq_false h1
    clear h1
    go_enter Tryd.func75, Tryd.ntmps75
    go_wp2_with fail
    refine R.out.mono ?_
    rintro e w' ⟨rfl, rfl⟩
    go_wp2_with fail
    go_ret
    exact ⟨ret_bool (by simp [badHit, E.out]), HB.out⟩
  · have E := Lib.hid h1
    have h1' : 1099511627776 < i := of_decide_eq_true h1
    clear h1
    go_enter Tryd.func75, Tryd.ntmps75
    go_wp2_with fail
    go_ret
    exact ⟨ret_bool (by simp [badHit, E.out]), HB.out⟩

end Go.Proofs.YtfmlhdikagogcaaDoor
