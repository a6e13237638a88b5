/-
  vec: is it right? (under names of its own, for seats that walk best too)
  note: is nothing too great? The closures over ops and hits.
-/
import Derived.Test.YtfmlhdikagogcaaDoorJ01
import Derived.Test.YtfmlhdikagogcaaDoorJ10
namespace Go.Proofs.YtfmlhdikagogcaaDoor
open Go.RowKit
set_option maxRecDepth 20000

def outR (n : Int) : Bool := decide (n < -268435456) || decide (268435456 < n)

theorem vRight1 (n : Int) (w : World) :
    Calls Tryd.prog 86 #[.int .i32 n] w fun e w' => e = .returned (.bool (outR n)) ∧ w = w' := by
  by_cases h : n < -268435456
  all_goals
    go_enter Tryd.func86, Tryd.ntmps86
    go_wp2
    go_ret
    exact ⟨by simp [outR, h]; try omega, rfl⟩

def vidx (xs : List Int) : Int := match xs.findIdx? outR with | some k => k | none => -1

theorem vidx_at (xs : List Int) (k : Nat) (hk : k < xs.length) (hall : ∀ j (h : j < xs.length), j < k → outR xs[j] = false) (hx : outR xs[k] = true) : vidx xs = k := by
  have : xs.findIdx? outR = some k := by
    rw [List.findIdx?_eq_some_iff_getElem]
    exact ⟨hk, hx, fun j hj => by simpa using hall j (by omega) hj⟩
  simp [vidx, this]

theorem vidx_none (xs : List Int) (hall : ∀ j (h : j < xs.length), outR xs[j] = false) : vidx xs = -1 := by
  have : xs.findIdx? outR = none := by
    rw [List.findIdx?_eq_none_iff]
    intro x hx
    obtain ⟨i, hi, rfl⟩ := List.mem_iff_getElem.1 hx
    exact hall i hi
  simp [vidx, this]

theorem vIndex (xs : List Int) (v : Value) (w : World) (h : Nums w .i32 v xs) :
    Calls Tryd.prog 89 #[v, .func (.func 86) #[] #[]] w fun e w' => e = .returned (.int .i64 (vidx xs)) ∧ w = w' := by
  obtain ⟨p, cap, rfl, hcap, hbig, -, hc⟩ := h.slice
  have hl : xs.length ≤ 9223372036854775807 := by omega
  clear hcap hbig
  go_enter Tryd.func89, Tryd.ntmps89
  go_wp2_with fail
  go_loop [5, 8] (fun _ i => ∃ k : Nat, k ≤ xs.length ∧ i = .int .i64 k ∧ ∀ j (h : j < xs.length), j < k → outR xs[j] = false) (fun _ i => xs.length - (intOf i).toNat)
  case atStart => exact ⟨0, by omega, rfl, by omega⟩
  case round =>
    obtain ⟨k, hk, rfl, hall⟩ := hrel
    have H := Lib.hid hall
    have H2 := Lib.hid hc
    have H3 := Lib.hid h
    clear hall hc h
    by_cases hlt : k < xs.length
    · obtain ⟨b, off, rfl, hcell⟩ := H2.out k hlt
      cases hx : outR xs[k]
      · go_wp2_with (go_at_call 86; refine (vRight1 _ _).mono ?_; rintro e w' ⟨rfl, rfl⟩)
        go_round
        case rel => exact ⟨k + 1, by omega, by go_num, fun j h hj => by
          by_cases e : j = k
          · subst e; exact hx
          · exact H.out j h (by omega)⟩
        case measure => simp [intOf]; omega
      · go_wp2_with (go_at_call 86; refine (vRight1 _ _).mono ?_; rintro e w' ⟨rfl, rfl⟩)
        go_ret
        exact ⟨ret_int (vidx_at xs k hlt H.out hx).symm, rfl⟩
    · go_wp2_with fail
      go_ret
      exact ⟨ret_int (vidx_none xs fun j h => H.out j h (by omega)).symm, rfl⟩


def rightB (xs : List Int) : Bool := decide (0 < xs.length) && decide (xs.length ≤ 8) && !xs.any outR

theorem vidx_ge (xs : List Int) : decide (0 ≤ vidx xs) = xs.any outR := by
  unfold vidx
  cases h : xs.findIdx? outR with
  | none =>
    rw [List.findIdx?_eq_none_iff] at h
    have : xs.any outR = false := by simp only [List.any_eq_false]; exact fun x hx => by simp [h x hx]
    simp [this]
  | some k =>
    rw [List.findIdx?_eq_some_iff_getElem] at h
    obtain ⟨hk, hx, _⟩ := h
    have : xs.any outR = true := by simp only [List.any_eq_true]; exact ⟨_, List.getElem_mem hk, hx⟩
    simp [this]

theorem vContains (xs : List Int) (v : Value) (w : World) (h : Nums w .i32 v xs) :
    Calls Tryd.prog 85 #[v, .func (.func 86) #[] #[]] w fun e w' => e = .returned (.bool (xs.any outR)) ∧ w = w' := by
  have H := Lib.hid h
  clear h
  go_enter Tryd.func85, Tryd.ntmps85
  go_wp2_with fail
  refine (vIndex xs _ _ H.out).mono ?_
  rintro e w' ⟨rfl, rfl⟩
  go_wp2_with fail
  go_ret
  exact ⟨ret_bool (vidx_ge xs), rfl⟩

theorem vRight (xs : List Int) (v : Value) (w : World) (h : Nums w .i32 v xs) :
    Calls Tryd.prog 76 #[v] w fun e w' => e = .returned (.bool (rightB xs)) ∧ w = w' := by
  obtain ⟨p, cap, rfl, hcap, hbig, -, hc⟩ := h.slice
  have hl : xs.length ≤ 9223372036854775807 := by omega
  clear hcap hbig
  clear hc
  have H := Lib.hid h
  clear h
  by_cases h1 : 0 < xs.length
  · by_cases h2 : xs.length ≤ 8
    · go_enter Tryd.func76, Tryd.ntmps76
      go_wp2_with (go_at_call 85; refine (vContains xs _ _ H.out).mono ?_; rintro e w' ⟨rfl, rfl⟩)
      go_ret
      exact ⟨ret_bool (by simp [rightB, h1, h2]), rfl⟩
    · go_enter Tryd.func76, Tryd.ntmps76
      go_wp2_with fail
      go_ret
      exact ⟨ret_bool (by simp [rightB, h1, h2]), rfl⟩
  · go_enter Tryd.func76, Tryd.ntmps76
    go_wp2_with fail
    go_ret
    exact ⟨ret_bool (by simp [rightB, h1]), rfl⟩

end Go.Proofs.YtfmlhdikagogcaaDoor

namespace Go.Proofs.YtfmlhdikagogcaaDoor
open Go.RowKit
set_option maxRecDepth 20000

def bareB (xs : List Int) : Bool := xs.length == 0 || rightB xs

theorem bare (xs : List Int) (v : Value) (w : World) (h : Nums w .i32 v xs) :
    Calls Tryd.prog 71 #[v] w fun e w' => e = .returned (.bool (bareB xs)) ∧ w = w' := by
  obtain ⟨p, cap, rfl, hcap, hbig, -, hc⟩ := h.slice
  have hl : xs.length ≤ 9223372036854775807 := by omega
  have R := Lib.hid (vRight xs _ w h)
  clear h hcap hbig hc
  cases h0 : xs.length == 0
  · have hz : ((xs.length : Int) == 0) = false := by rw [beq_eq_false_iff_ne] at h0 ⊢; omega
    have E := Lib.hid h0
    clear h0
    go_enter Tryd.func71, Tryd.ntmps71
    go_wp2_with fail
    refine R.out.mono ?_
    rintro e w' ⟨rfl, rfl⟩
    go_wp2_with fail
    go_ret
    exact ⟨ret_bool (by simp [bareB, E.out]), rfl⟩
  · have hz : ((xs.length : Int) == 0) = true := by rw [beq_iff_eq] at h0 ⊢; omega
    have E := Lib.hid h0
    clear h0
    go_enter Tryd.func71, Tryd.ntmps71
    go_wp2_with fail
    go_ret
    exact ⟨ret_bool (by simp [bareB, E.out]), rfl⟩

/-- an op that is too great -/
def badOp (o : Int × List Int) : Bool := decide (1099511627776 < o.1) || !bareB o.2
/-- a hit that is too great -/
def badHit (h : Hz) : Bool := decide (1099511627776 < h.id) || !rightB h.vec

theorem bounded1 (i : Int) (xs : List Int) (u : Value) (w : World) (h : Nums w .i32 u xs) :
    Calls Tryd.prog 73 #[.agg #[.int .u64 i, u]] w fun e w' => e = .returned (.bool (badOp (i, xs))) ∧ Below w.heap.size w w' := by
  obtain ⟨p, cap, rfl, -, -, -, -⟩ := h.slice
  have HB := Lib.hid ((Below.refl w.heap.size w).alloc (Nat.le_refl _) (Obj.cells #[.int .u64 i, .slice p xs.length cap] 105))
  have R := Lib.hid (bare xs _ _ (h.below HB.out))
  clear h
  cases h1 : decide (1099511627776 < i)
  · have E := Lib.hid h1
    have h1' : ¬ 1099511627776 < i := of_decide_eq_false h1
    clear h1
    go_enter Tryd.func73, Tryd.ntmps73
    go_wp2_with fail
    refine R.out.mono ?_
    rintro e w' ⟨rfl, rfl⟩
    go_wp2_with fail
    go_ret
    exact ⟨ret_bool (by simp [badOp, E.out]), HB.out⟩
  · have E := Lib.hid h1
    have h1' : 1099511627776 < i := of_decide_eq_true h1
    clear h1
    go_enter Tryd.func73, Tryd.ntmps73
    go_wp2_with fail
    go_ret
    exact ⟨ret_bool (by simp [badOp, E.out]), HB.out⟩

theorem bounded2 (i d : Int) (xs : List Int) (u : Value) (w : World) (h : Nums w .i32 u xs) :
    Calls Tryd.prog 75 #[.agg #[.int .u64 i, .int .u64 d, u]] w fun e w' => e = .returned (.bool (badHit ⟨i, d, xs⟩)) ∧ Below w.heap.size w w' := by
  obtain ⟨p, cap, rfl, -, -, -, -⟩ := h.slice
  have HB := Lib.hid ((Below.refl w.heap.size w).alloc (Nat.le_refl _) (Obj.cells #[.int .u64 i, .int .u64 d, .slice p xs.length cap] 40))
  have R := Lib.hid (vRight xs _ _ (h.below HB.out))
  clear h
  cases h1 : decide (1099511627776 < i)
  · have E := Lib.hid h1
    have h1' : ¬ 1099511627776 < i := of_decide_eq_false h1
    clear h1
    go_enter Tryd.func75, Tryd.ntmps75
    go_wp2_with fail
    refine R.out.mono ?_
    rintro e w' ⟨rfl, rfl⟩
    go_wp2_with fail
    go_ret
    exact ⟨ret_bool (by simp [badHit, E.out]), HB.out⟩
  · have E := Lib.hid h1
    have h1' : 1099511627776 < i := of_decide_eq_true h1
    clear h1
    go_enter Tryd.func75, Tryd.ntmps75
    go_wp2_with fail
    go_ret
    exact ⟨ret_bool (by simp [badHit, E.out]), HB.out⟩

end Go.Proofs.YtfmlhdikagogcaaDoor
