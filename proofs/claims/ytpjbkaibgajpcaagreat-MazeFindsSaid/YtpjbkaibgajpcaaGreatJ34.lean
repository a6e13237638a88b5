/- VecB VecC VecD maze: what a maze is, in plain lists. maze: how it lies; the calls that only read it; the space. -/
import Derived.Test.YtpjbkaibgajpcaaGreatJ33
import Derived.Test.YtpjbkaibgajpcaaGreatJ32
namespace Go.Proofs.YtpjbkaibgajpcaaGreat
open Go.RowKit
set_option maxRecDepth 20000

def distZ : List Int → List Int → Int
  | x :: xs, y :: ys => (x - y) * (x - y) + distZ xs ys
  | _, _ => 0

theorem sq_nonneg (x : Int) : 0 ≤ x * x := by
  rcases Int.le_total 0 x with h | h
  · exact Int.mul_nonneg h h
  · exact Int.mul_nonneg_of_nonpos_of_nonpos h h

theorem sq_le (x m : Int) (h1 : -m ≤ x) (h2 : x ≤ m) : x * x ≤ m * m := by
  have h : 0 ≤ (m - x) * (m + x) := Int.mul_nonneg (by omega) (by omega)
  have e : (m - x) * (m + x) = m * m - x * x := by
    rw [Int.sub_mul, Int.mul_add, Int.mul_add, Int.mul_comm x m]; omega
  omega

theorem distZ_snoc (xs ys : List Int) (k : Nat) (h1 : k < xs.length) (h2 : k < ys.length) :
    distZ (xs.take (k + 1)) (ys.take (k + 1)) = distZ (xs.take k) (ys.take k) + (xs[k] - ys[k]) * (xs[k] - ys[k]) := by
  induction xs generalizing ys k with
  | nil => simp at h1
  | cons x xs ih =>
    cases ys with
    | nil => simp at h2
    | cons y ys =>
      cases k with
      | zero => simp [distZ]
      | succ k =>
        simp only [List.take_succ_cons, distZ, List.getElem_cons_succ]
        rw [ih ys k (by simpa using h1) (by simpa using h2)]
        omega

def inB (xs : List Int) : Prop := ∀ j (h : j < xs.length), -268435456 ≤ xs[j] ∧ xs[j] ≤ 268435456

theorem inB_of_right {xs : List Int} (h : rightB xs = true) : inB xs ∧ 0 < xs.length ∧ xs.length ≤ 8 := by
  simp only [rightB, Bool.and_eq_true, decide_eq_true_eq, Bool.not_eq_true', List.any_eq_false] at h
  refine ⟨fun j hj => ?_, h.1.1, h.1.2⟩
  have := h.2 _ (List.getElem_mem hj)
  simp only [outB, Bool.or_eq_true, decide_eq_true_eq] at this
  omega

theorem sq_in {xs ys : List Int} (hx : inB xs) (hy : inB ys) (k : Nat) (h1 : k < xs.length) (h2 : k < ys.length) :
    0 ≤ (xs[k] - ys[k]) * (xs[k] - ys[k]) ∧ (xs[k] - ys[k]) * (xs[k] - ys[k]) ≤ 288230376151711744 := by
  refine ⟨sq_nonneg _, ?_⟩
  have a := hx k h1
  have b := hy k h2
  exact Int.le_trans (sq_le _ 536870912 (by omega) (by omega)) (by decide)

theorem distZ_in {xs ys : List Int} (hx : inB xs) (hy : inB ys) (hl : xs.length = ys.length) (k : Nat) (hk : k ≤ xs.length) :
    0 ≤ distZ (xs.take k) (ys.take k) ∧ distZ (xs.take k) (ys.take k) ≤ k * 288230376151711744 := by
  induction k with
  | zero => simp [distZ]
  | succ k ih =>
    have ih := ih (by omega)
    have s := sq_in hx hy k (by omega) (by omega)
    rw [distZ_snoc xs ys k (by omega) (by omega)]
    omega

def distR (xs ys : List Int) : Int × Int :=
  if rightB xs = true ∧ rightB ys = true ∧ xs.length = ys.length then (distZ xs ys, 0) else (0, 4)

theorem dist_no (xs ys : List Int) (v u : Value) (w : World) (h : Nums w .i32 v xs) (g : Nums w .i32 u ys) (hn : ¬ (rightB xs = true ∧ rightB ys = true ∧ xs.length = ys.length)) :
    Calls Tryz.prog 85 #[v, u] w fun e w' => e = .returned (.tuple #[.int .u64 0, .int .i64 4]) ∧ w = w' := by
  obtain ⟨p, cap, rfl, hcap, hbig, -, hc⟩ := h.slice
  have hl : xs.length ≤ 9223372036854775807 := by omega
  clear hcap hbig
  obtain ⟨q, cap', rfl, hcap', hbig', -, hc'⟩ := g.slice
  have hl' : ys.length ≤ 9223372036854775807 := by omega
  clear hcap' hbig'
  clear hc hc'
  have H := Lib.hid h
  have G := Lib.hid g
  clear h g
  have N := Lib.hid hn
  clear hn
  cases h1 : rightB xs
  · go_enter Tryz.func85, Tryz.ntmps85
    go_wp2_with (go_at_call 68; refine (right xs _ _ H.out).mono ?_; rintro e w' ⟨rfl, rfl⟩)
    go_ret2
    exact ⟨rfl, rfl⟩
  cases h2 : rightB ys
  · go_enter Tryz.func85, Tryz.ntmps85
    go_wp2_with (go_at_call 68; first | ((with_reducible refine (right xs _ _ H.out).mono ?_); rintro e w' ⟨rfl, rfl⟩) | ((with_reducible refine (right ys _ _ G.out).mono ?_); rintro e w' ⟨rfl, rfl⟩))
    go_ret2
    exact ⟨rfl, rfl⟩
  · have h4 : ((xs.length : Int) != ys.length) = true := by
      have h3 : xs.length ≠ ys.length := fun h3 => N.out ⟨h1, h2, h3⟩
      simp; omega
    go_enter Tryz.func85, Tryz.ntmps85
    go_wp2_with (go_at_call 68; first | ((with_reducible refine (right xs _ _ H.out).mono ?_); rintro e w' ⟨rfl, rfl⟩) | ((with_reducible refine (right ys _ _ G.out).mono ?_); rintro e w' ⟨rfl, rfl⟩))
    go_ret2
    exact ⟨rfl, rfl⟩

theorem dist_yes (xs ys : List Int) (v u : Value) (w : World) (h : Nums w .i32 v xs) (g : Nums w .i32 u ys) (h1 : rightB xs = true) (h2 : rightB ys = true) (h3 : xs.length = ys.length) :
    Calls Tryz.prog 85 #[v, u] w fun e w' => e = .returned (.tuple #[.int .u64 (distZ xs ys), .int .i64 0]) ∧ w = w' := by
  obtain ⟨p, cap, rfl, hcap, hbig, -, hc⟩ := h.slice
  have hl : xs.length ≤ 9223372036854775807 := by omega
  clear hcap hbig
  obtain ⟨q, cap', rfl, hcap', hbig', -, hc'⟩ := g.slice
  have hl' : ys.length ≤ 9223372036854775807 := by omega
  clear hcap' hbig'
  have h4 : ((xs.length : Int) != ys.length) = false := by simp [h3]
  have hx := inB_of_right h1
  have hy := inB_of_right h2
  have X := Lib.hid (And.intro hx.1 hy.1)
  have C := Lib.hid hc
  have C' := Lib.hid hc'
  have H := Lib.hid h
  have G := Lib.hid g
  have H3 := Lib.hid h3
  clear h g hx hy hc hc' h3
  go_enter Tryz.func85, Tryz.ntmps85
  go_wp2_with (go_at_call 68; first | ((with_reducible refine (right xs _ _ H.out).mono ?_); rintro e w' ⟨rfl, rfl⟩) | ((with_reducible refine (right ys _ _ G.out).mono ?_); rintro e w' ⟨rfl, rfl⟩))
  go_loop [6, 27] (fun s i => ∃ k : Nat, k ≤ xs.length ∧ i = .int .i64 k ∧ s = .int .u64 (distZ (xs.take k) (ys.take k))) (fun _ i => xs.length - (intOf i).toNat)
  case atStart => exact ⟨0, by omega, rfl, rfl⟩
  case round =>
    obtain ⟨k, hk, rfl, rfl⟩ := hrel
    by_cases hlt : k < xs.length
    · have hlt' : k < ys.length := by have := H3.out; omega
      obtain ⟨b, off, rfl, hcell⟩ := C.out k hlt
      obtain ⟨b', off', rfl, hcell'⟩ := C'.out k hlt'
      have hs := sq_in X.out.1 X.out.2 k hlt hlt'
      have hd := distZ_in X.out.1 X.out.2 H3.out k hk
      have hi := X.out.1 k hlt
      have hi' := X.out.2 k hlt'
      have hsn := Lib.hid (distZ_snoc xs ys k hlt hlt')
      have l8 : xs.length ≤ 8 := (inB_of_right h1).2.2
      go_wp2
      go_round
      case rel => exact ⟨k + 1, by omega, by go_num, by rw [hsn.out]⟩
      case measure => simp [intOf]; omega
    · go_wp2
      go_ret2
      have h3 := H3.out
      exact ⟨ret_ii (by rw [List.take_of_length_le (by omega), List.take_of_length_le (by omega)]) rfl, rfl⟩

theorem dist (xs ys : List Int) (v u : Value) (w : World) (h : Nums w .i32 v xs) (g : Nums w .i32 u ys) :
    Calls Tryz.prog 85 #[v, u] w fun e w' => e = .returned (.tuple #[.int .u64 (distR xs ys).1, .int .i64 (distR xs ys).2]) ∧ w = w' := by
  unfold distR
  split
  · rename_i hn
    exact dist_yes xs ys v u w h g hn.1 hn.2.1 hn.2.2
  · rename_i hn
    exact dist_no xs ys v u w h g hn

end Go.Proofs.YtpjbkaibgajpcaaGreat

namespace Go.Proofs.YtpjbkaibgajpcaaGreat
open Go.RowKit
set_option maxRecDepth 20000

theorem refRight (xs : List Int) (v : Value) (w : World) (h : Nums w .i32 v xs) :
    Calls Tryz.prog 14 #[v] w fun e w' => e = .returned (.bool (rightB xs)) ∧ w = w' := by
  obtain ⟨p, cap, rfl, hcap, hbig, -, hc⟩ := h.slice
  have hl : xs.length ≤ 9223372036854775807 := by omega
  clear hcap hbig
  have H := Lib.hid h
  clear h hc
  go_enter Tryz.func14, Tryz.ntmps14
  go_wp2
  go_loop [4, 7] (fun _ i => ∃ k : Nat, k ≤ xs.length ∧ i = .int .i64 k ∧ ∀ j (h : j < xs.length), j < k → outB xs[j] = false) (fun _ i => xs.length - (intOf i).toNat)
  case atStart => exact ⟨0, by omega, rfl, by omega⟩
  case round =>
    obtain ⟨k, hk, rfl, hall⟩ := hrel
    have A := Lib.hid hall
    clear hall
    by_cases hlt : k < xs.length
    · obtain ⟨b, off, rfl, hcell⟩ := H.out.elem hlt
      by_cases h1 : 268435456 < xs[k]
      · go_wp2
        go_ret
        exact ⟨ret_bool (by have : xs.any outB = true := by rw [List.any_eq_true]; exact ⟨_, List.getElem_mem hlt, by simp [outB, h1]⟩
                            simp [rightB, this]), rfl⟩
      · by_cases h2 : xs[k] < -268435456
        · go_wp2
          go_ret
          exact ⟨ret_bool (by have : xs.any outB = true := by rw [List.any_eq_true]; exact ⟨_, List.getElem_mem hlt, by simp [outB, h2]⟩
                              simp [rightB, this]), rfl⟩
        · go_wp2
          go_round
          case rel => exact ⟨k + 1, by omega, by go_num, fun j h hj => by
            by_cases e : j = k
            · subst e; simp [outB]; omega
            · exact A.out j h (by omega)⟩
          case measure => simp [intOf]; omega
    · have hany : xs.any outB = false := by
        simp only [List.any_eq_false]
        intro x hx
        obtain ⟨i, hi, rfl⟩ := List.mem_iff_getElem.1 hx
        simp [A.out i hi (by omega)]
      have Y := Lib.hid hany
      clear hany
      by_cases h1 : 1 ≤ xs.length
      · go_wp2
        go_ret
        exact ⟨ret_bool (by have h0 : 0 < xs.length := by omega
                            simp [rightB, Y.out, h0]; omega), rfl⟩
      · go_wp2
        go_ret
        exact ⟨ret_bool (by simp [rightB]; omega), rfl⟩

theorem gap (x y : Int) (w : World) (hx : -268435456 ≤ x ∧ x ≤ 268435456) (hy : -268435456 ≤ y ∧ y ≤ 268435456) :
    Calls Tryz.prog 42 #[.int .i32 x, .int .i32 y] w fun e w' => e = .returned (.int .u64 (if x < y then y - x else x - y)) ∧ w = w' := by
  by_cases h : x < y
  · go_enter Tryz.func42, Tryz.ntmps42
    go_wp2
    go_ret
    exact ⟨rfl, rfl⟩
  · go_enter Tryz.func42, Tryz.ntmps42
    go_wp2
    go_ret
    exact ⟨rfl, rfl⟩

def mulT (x y : Int) : Int := IntKind.u64.wrap (x / 4294967296 * bits BinOp.and IntKind.u64 y 4294967295) + IntKind.u64.wrap (bits BinOp.and IntKind.u64 x 4294967295 * bits BinOp.and IntKind.u64 y 4294967295) / 4294967296
def mulHi (x y : Int) : Int :=
  IntKind.u64.wrap (IntKind.u64.wrap (IntKind.u64.wrap (x / 4294967296 * (y / 4294967296)) + IntKind.u64.wrap (mulT x y) / 4294967296) +
    IntKind.u64.wrap (bits BinOp.and IntKind.u64 (IntKind.u64.wrap (mulT x y)) 4294967295 + IntKind.u64.wrap (bits BinOp.and IntKind.u64 x 4294967295 * (y / 4294967296))) / 4294967296)

theorem mul64 (x y : Int) (w : World) :
    Calls Tryz.prog 41 #[.int .u64 x, .int .u64 y] w fun e w' => e = .returned (.tuple #[.int .u64 (mulHi x y), .int .u64 (IntKind.u64.wrap (x * y))]) ∧ w = w' := by
  go_enter Tryz.func41, Tryz.ntmps41
  go_wp2
  go_ret2
  exact ⟨rfl, rfl⟩

theorem distZ_gap (x y : Int) : (if x < y then y - x else x - y) * (if x < y then y - x else x - y) = (x - y) * (x - y) := by
  split
  · rw [← Int.neg_mul_neg]; congr 1 <;> omega
  · rfl

theorem gap_in (x y : Int) (hx : -268435456 ≤ x ∧ x ≤ 268435456) (hy : -268435456 ≤ y ∧ y ≤ 268435456) :
    IntKind.u64.wrap ((if x < y then y - x else x - y) * (if x < y then y - x else x - y)) = (x - y) * (x - y) := by
  rw [distZ_gap]
  refine IntWalk.u64_in _ ⟨sq_nonneg _, ?_⟩
  exact Int.le_trans (sq_le _ 536870912 (by omega) (by omega)) (by decide)

end Go.Proofs.YtpjbkaibgajpcaaGreat

namespace Go.Proofs.YtpjbkaibgajpcaaGreat
open Go.RowKit
set_option maxRecDepth 20000

theorem refDist_no (xs ys : List Int) (v u : Value) (w : World) (h : Nums w .i32 v xs) (g : Nums w .i32 u ys) (hn : ¬ (rightB xs = true ∧ rightB ys = true ∧ xs.length = ys.length)) :
    Calls Tryz.prog 16 #[v, u] w fun e w' => e = .returned (.tuple #[.int .u64 0, .int .i64 4]) ∧ w = w' := by
  obtain ⟨p, cap, rfl, hcap, hbig, -, hc⟩ := h.slice
  have hl : xs.length ≤ 9223372036854775807 := by omega
  clear hcap hbig
  obtain ⟨q, cap', rfl, hcap', hbig', -, hc'⟩ := g.slice
  have hl' : ys.length ≤ 9223372036854775807 := by omega
  clear hcap' hbig'
  clear hc hc'
  have H := Lib.hid h
  have G := Lib.hid g
  clear h g
  have N := Lib.hid hn
  clear hn
  cases h1 : rightB xs
  · go_enter Tryz.func16, Tryz.ntmps16
    go_wp2_with (go_at_call 14; refine (refRight xs _ _ H.out).mono ?_; rintro e w' ⟨rfl, rfl⟩)
    go_ret2
    exact ⟨rfl, rfl⟩
  cases h2 : rightB ys
  · go_enter Tryz.func16, Tryz.ntmps16
    go_wp2_with (go_at_call 14; first | ((with_reducible refine (refRight xs _ _ H.out).mono ?_); rintro e w' ⟨rfl, rfl⟩) | ((with_reducible refine (refRight ys _ _ G.out).mono ?_); rintro e w' ⟨rfl, rfl⟩))
    go_ret2
    exact ⟨rfl, rfl⟩
  · have h4 : ((xs.length : Int) != ys.length) = true := by
      have h3 : xs.length ≠ ys.length := fun h3 => N.out ⟨h1, h2, h3⟩
      simp; omega
    go_enter Tryz.func16, Tryz.ntmps16
    go_wp2_with (go_at_call 14; first | ((with_reducible refine (refRight xs _ _ H.out).mono ?_); rintro e w' ⟨rfl, rfl⟩) | ((with_reducible refine (refRight ys _ _ G.out).mono ?_); rintro e w' ⟨rfl, rfl⟩))
    go_ret2
    exact ⟨rfl, rfl⟩

theorem refDist_yes (xs ys : List Int) (v u : Value) (w : World) (h : Nums w .i32 v xs) (g : Nums w .i32 u ys) (h1 : rightB xs = true) (h2 : rightB ys = true) (h3 : xs.length = ys.length) :
    Calls Tryz.prog 16 #[v, u] w fun e w' => e = .returned (.tuple #[.int .u64 (distZ xs ys), .int .i64 0]) ∧ Below w.heap.size w w' := by
  obtain ⟨p, cap, rfl, hcap, hbig, -, hc⟩ := h.slice
  have hl : xs.length ≤ 9223372036854775807 := by omega
  clear hcap hbig
  obtain ⟨q, cap', rfl, hcap', hbig', -, hc'⟩ := g.slice
  have hl' : ys.length ≤ 9223372036854775807 := by omega
  clear hcap' hbig'
  have h4 : ((xs.length : Int) != ys.length) = false := by simp [h3]
  have hx := inB_of_right h1
  have hy := inB_of_right h2
  have X := Lib.hid (And.intro hx.1 hy.1)
  have H := Lib.hid h
  have G := Lib.hid g
  have H3 := Lib.hid h3
  clear h g hx hy hc hc' h3
  go_enter Tryz.func16, Tryz.ntmps16
  go_wp2_with (go_at_call 14; first | ((with_reducible refine (refRight xs _ _ H.out).mono ?_); rintro e w' ⟨rfl, rfl⟩) | ((with_reducible refine (refRight ys _ _ G.out).mono ?_); rintro e w' ⟨rfl, rfl⟩))
  go_loopw [6, 27] (fun s i wr => ∃ k : Nat, k ≤ xs.length ∧ i = .int .i64 k ∧ s = .int .u64 (distZ (xs.take k) (ys.take k)) ∧ Below w.heap.size w wr) (fun _ i _ => xs.length - (intOf i).toNat)
  case atStart => exact ⟨0, by omega, rfl, rfl, Below.refl _ _⟩
  case round =>
    obtain ⟨k, hk, rfl, rfl, hb⟩ := hrel
    have A := Lib.hid hb
    clear hb
    by_cases hlt : k < xs.length
    · have hlt' : k < ys.length := by have := H3.out; omega
      obtain ⟨b, off, rfl, hcell⟩ := (H.out.below A.out).elem hlt
      obtain ⟨b', off', rfl, hcell'⟩ := (G.out.below A.out).elem hlt'
      have hs := sq_in X.out.1 X.out.2 k hlt hlt'
      have hd := distZ_in X.out.1 X.out.2 H3.out k hk
      have hi := X.out.1 k hlt
      have hi' := X.out.2 k hlt'
      have hsn := Lib.hid (distZ_snoc xs ys k hlt hlt')
      have l8 : xs.length ≤ 8 := (inB_of_right h1).2.2
      have l8' : ys.length ≤ 8 := (inB_of_right h2).2.2
      have hm := mul64 (if xs[k] < ys[k] then ys[k] - xs[k] else xs[k] - ys[k]) (if xs[k] < ys[k] then ys[k] - xs[k] else xs[k] - ys[k])
      rw [gap_in _ _ hi hi'] at hm
      have M := Lib.hid hm
      clear hm
      go_wp2_with fail
      go_quiet ((first | (go_at_call 42; exact Calls.quiet_of_same (sw (gap xs[k] ys[k] _ hi hi'))) | (go_at_call 41; exact Calls.quiet_of_same (sw (M.out _)))))
      go_wp2
      go_roundw
      case rel => exact ⟨k + 1, by omega, by go_num, by rw [hsn.out], below_drewN A.out _⟩
      case measure => simp [intOf]; omega
    · go_wp2
      go_ret2
      have h3 := H3.out
      exact ⟨ret_ii (by rw [List.take_of_length_le (by omega), List.take_of_length_le (by omega)]) rfl, A.out⟩

theorem refDist (xs ys : List Int) (v u : Value) (w : World) (h : Nums w .i32 v xs) (g : Nums w .i32 u ys) :
    Calls Tryz.prog 16 #[v, u] w fun e w' => e = .returned (.tuple #[.int .u64 (distR xs ys).1, .int .i64 (distR xs ys).2]) ∧ Below w.heap.size w w' := by
  unfold distR
  split
  · rename_i hn
    exact refDist_yes xs ys v u w h g hn.1 hn.2.1 hn.2.2
  · rename_i hn
    refine (refDist_no xs ys v u w h g hn).mono ?_
    rintro e w' ⟨he, rfl⟩
    exact ⟨he, Below.refl _ _⟩

end Go.Proofs.YtpjbkaibgajpcaaGreat

namespace Go.Proofs.YtpjbkaibgajpcaaGreat
open Go.RowKit
set_option maxRecDepth 20000

def spaceZ (L : List Hz) (v : List Int) : List Hz := L.map fun h => hitK h.id (distR v h.vec).1
def vecOf (L : List Hz) (k : Int) : List Int := ((L.find? fun h => decide (h.id = k)).map (·.vec)).getD []
def softL (L : List Hz) (E : Eg) (k : Int) : List Hz := (nearD E k true).map fun s => hitK s (distR (vecOf L k) (vecOf L s)).1
def farther (a h : Hz) : Hz := if near a h = true then h else a
def worstZ : List Hz → Option Hz
  | [] => none
  | h :: t => some (t.foldl farther h)

def pruneZ (L : List Hz) (N : List Int) (k : Int) : Nat → Eg → Eg
  | 0, E => E
  | f + 1, E => if (nearD E k true).length ≤ 4 then E else match worstZ (softL L E k) with
    | none => E
    | some h => pruneZ L N k f (cutD N E k h.id).2

def linkN (N : List Int) (k : Int) (nr : List Hz) : Nat → Eg → Eg
  | 0, E => E
  | j + 1, E => match nr[j]? with
    | none => linkN N k nr j E
    | some h => if j = 0 then (bindD N (linkN N k nr j E) k h.id).2 else (linkD N (linkN N k nr j E) k h.id).2

def pruneN (L : List Hz) (N : List Int) (nr : List Hz) : Nat → Eg → Eg
  | 0, E => E
  | j + 1, E => match nr[j]? with
    | none => pruneN L N nr j E
    | some h => pruneZ L N h.id (pruneN L N nr j E).length (pruneN L N nr j E)

structure Mz where
  N : List Int
  E : Eg
  L : List Hz

def entryZ (L : List Hz) : Int := (L.head?.map (·.id)).getD 0
def rightZ (dim : Int) (v : List Int) : Bool := rightB v && decide ((v.length : Int) = dim)
def nearM (s : Mz) (v : List Int) : List Hz := if s.L = [] then [] else (resW (spaceZ s.L v) s.E 16 [entryZ s.L]).1.take 4

def newM (s : Mz) (k : Int) (v : List Int) : Mz :=
  ⟨putZ s.N k, pruneN (s.L ++ [⟨k, 0, v⟩]) (putZ s.N k) (nearM s v) (nearM s v).length (linkN (putZ s.N k) k (nearM s v) (nearM s v).length s.E), s.L ++ [⟨k, 0, v⟩]⟩
def putM (dim : Int) (s : Mz) (k : Int) (v : List Int) : Int × Mz :=
  if rightZ dim v = false then (4, s) else if k ∈ s.N then (7, s) else (0, newM s k v)

def toldM (s : Mz) (h : Hz) : Hz := ⟨h.id, h.dist, vecOf s.L h.id⟩
def findM (dim : Int) (s : Mz) (v : List Int) (ef : Int) : List Hz × Nat × Int :=
  if ef < 1 ∨ 256 < ef then ([], 0, 1) else if rightZ dim v = false then ([], 0, 4) else if s.L = [] then ([], 0, 0) else
  ((resW (spaceZ s.L v) s.E ef.toNat [entryZ s.L]).1.map (toldM s), (resW (spaceZ s.L v) s.E ef.toNat [entryZ s.L]).2, 0)

def RelM (N : List Int) (E : Eg) : Prop := ∃ Q, Rel Q N E

structure OkM (dim : Int) (s : Mz) : Prop where
  rel : RelM s.N s.E
  same : ∀ x, x ∈ s.N ↔ x ∈ s.L.map (·.id)
  once : (s.L.map (·.id)).Nodup
  vecs : ∀ h ∈ s.L, rightZ dim h.vec = true ∧ h.dist = 0
  few : s.E.length ≤ 4 * s.L.length

theorem far_of_max {t : List Hz} : ∀ {h : Hz}, t.foldl farther h ∈ h :: t ∧ ∀ x ∈ h :: t, near (t.foldl farther h) x = false := by
  induction t with
  | nil => intro h; exact ⟨by simp, fun x hx => by obtain rfl : x = h := by simpa using hx
                                                   exact near_irrefl _⟩
  | cons a t ih =>
    intro h
    simp only [List.foldl_cons]
    obtain ⟨h1, h2⟩ := ih (h := farther h a)
    have hm : farther h a = h ∨ farther h a = a := by unfold farther; split <;> simp
    have hh : near (farther h a) h = false ∧ near (farther h a) a = false := by
      unfold farther
      by_cases hn : near h a = true
      · rw [if_pos hn]; exact ⟨near_asymm hn, near_irrefl _⟩
      · rw [if_neg hn]; exact ⟨near_irrefl _, by simpa using hn⟩
    have h3 := h2 (farther h a) (by simp)
    refine ⟨?_, fun x hx => ?_⟩
    · rcases List.mem_cons.1 h1 with e | e
      · rw [e]; rcases hm with e2 | e2 <;> rw [e2] <;> simp
      · simp [e]
    · simp only [List.mem_cons] at hx
      rcases hx with rfl | rfl | hx
      · exact near_le_trans h3 hh.1
      · exact near_le_trans h3 hh.2
      · exact h2 x (by simp [hx])

theorem worst_max {l : List Hz} {h : Hz} (hw : worstZ l = some h) : h ∈ l ∧ ∀ x ∈ l, near h x = false := by
  cases l with
  | nil => cases hw
  | cons a t =>
    obtain rfl : t.foldl farther a = h := by simpa [worstZ] using hw
    exact far_of_max

theorem ids_inj {l : List Hz} (hi : Ids l) {a b : Hz} (ha : a ∈ l) (hb : b ∈ l) (e : a.id = b.id) : a = b := by
  induction l with
  | nil => cases ha
  | cons c l ih =>
    have h := List.pairwise_cons.1 hi
    rcases List.mem_cons.1 ha with ha1 | ha1
    · rcases List.mem_cons.1 hb with hb1 | hb1
      · rw [ha1, hb1]
      · exact absurd (ha1 ▸ e) (h.1 b hb1)
    · rcases List.mem_cons.1 hb with hb1 | hb1
      · exact absurd (hb1 ▸ e.symm) (h.1 a ha1)
      · exact ih h.2 ha1 hb1

theorem worst_last {l m : List Hz} (hs : Sorted m) (hp : m.Perm l) (hi : Ids l) : worstZ l = m.getLast? := by
  cases hw : worstZ l with
  | none =>
    cases l with
    | nil => rw [List.perm_nil.1 hp]; rfl
    | cons a t => cases hw
  | some h =>
    obtain ⟨h1, h2⟩ := worst_max hw
    cases hy : m.getLast? with
    | none => rw [List.getLast?_eq_none_iff] at hy; rw [hy] at hp; rw [hp.symm.eq_nil] at h1; cases h1
    | some y =>
      have hym := List.mem_of_getLast? hy
      have hyl := hp.mem_iff.1 hym
      have h3 := h2 y hyl
      have h4 : near y h = false := by
        rw [List.getLast?_eq_some_iff] at hy
        obtain ⟨ys, e⟩ := hy
        have hm := hp.mem_iff.2 h1
        rw [e] at hs hm
        rcases List.mem_append.1 hm with h5 | h5
        · exact near_asymm ((List.pairwise_append.1 hs).2.2 h h5 y (by simp))
        · obtain rfl : h = y := by simpa using h5
          exact near_irrefl _
      by_cases e : h.id = y.id
      · rw [ids_inj hi h1 hyl e]
      · rcases near_total e with h5 | h5
        · rw [h5] at h3; cases h3
        · rw [h5] at h4; cases h4

theorem soft_ids {N : List Int} {E : Eg} (h : RelM N E) (L : List Hz) (k : Int) : Ids (softL L E k) := by
  obtain ⟨Q, hr⟩ := h
  have h1 := sorted_nodup (nearD_sorted hr.egs k true)
  unfold Ids softL
  rw [List.pairwise_map]
  exact h1

theorem cut_soft {N : List Int} {E : Eg} (h : RelM N E) {k x : Int} (hx : x ∈ nearD E k true) : (cutD N E k x).2.length + 1 = E.length ∧ RelM N (cutD N E k x).2 := by
  obtain ⟨Q, hr⟩ := h
  refine ⟨?_, ⟨_, (hr.cut k x).2.1⟩⟩
  obtain ⟨v, hv, hf⟩ := (mem_nearD hr.egs).1 hx
  obtain rfl : v = false := by simpa using hf
  rw [edgeD_at] at hv
  cases hat : atE E k x with
  | none => rw [hat] at hv; cases hv
  | some i =>
    obtain ⟨hi, h1, h2⟩ := at_edge hat
    rw [hat] at hv
    simp only [Option.bind_some, List.getElem?_eq_getElem hi, Option.map_some, Option.some.injEq] at hv
    obtain ⟨e1, e2, e3⟩ := hr.ends E[i] (List.getElem_mem hi)
    rw [h1] at e1 e2
    rw [h2] at e1 e3
    have hk : k ∈ N ∧ x ∈ N ∧ k ≠ x := by
      rcases Int.le_total k x with hle | hle
      · rw [Int.min_eq_left hle] at e1 e2
        rw [Int.max_eq_right hle] at e1 e3
        exact ⟨e2, e3, by omega⟩
      · rw [Int.min_eq_right hle] at e1 e2
        rw [Int.max_eq_left hle] at e1 e3
        exact ⟨e3, e2, by omega⟩
    have hp : pairD N k x = 0 := by unfold pairD; rw [if_neg hk.2.2, if_pos ⟨hk.1, hk.2.1⟩]
    unfold cutD
    rw [if_neg (by simp [hp]), hat]
    simp only [List.getElem?_eq_getElem hi, Option.map_some, hv, Option.some.injEq, Bool.false_eq_true, if_false]
    rw [List.length_eraseIdx, if_pos hi]
    omega

theorem prune_stop (L : List Hz) (N : List Int) (k : Int) (f : Nat) {E : Eg} (h : (nearD E k true).length ≤ 4) : pruneZ L N k f E = E := by
  cases f with
  | zero => rfl
  | succ f => unfold pruneZ; rw [if_pos h]

theorem soft_some {L : List Hz} {E : Eg} {k : Int} (h : 4 < (nearD E k true).length) : ∃ x, worstZ (softL L E k) = some x ∧ x.id ∈ nearD E k true ∧ x ∈ softL L E k := by
  cases hw : worstZ (softL L E k) with
  | none =>
    have : softL L E k = [] := by
      cases hs : softL L E k with
      | nil => rfl
      | cons a t => rw [hs] at hw; cases hw
    have h2 := congrArg List.length this
    unfold softL at h2
    simp at h2
    rw [h2] at h
    simp at h
  | some x =>
    refine ⟨x, rfl, ?_, (worst_max hw).1⟩
    have h1 := (worst_max hw).1
    unfold softL at h1
    obtain ⟨s, hs, rfl⟩ := List.mem_map.1 h1
    exact hs

theorem prune_go {L : List Hz} {N : List Int} {E : Eg} (hr : RelM N E) {k : Int} (h : 4 < (nearD E k true).length) {x : Hz} (hx : worstZ (softL L E k) = some x) : pruneZ L N k E.length E = pruneZ L N k (cutD N E k x.id).2.length (cutD N E k x.id).2 := by
  obtain ⟨y, hy, hm, -⟩ := soft_some (L := L) h
  rw [hx] at hy
  obtain rfl := Option.some.inj hy
  have hl := (cut_soft hr hm).1
  rw [show E.length = (cutD N E k x.id).2.length + 1 by omega]
  conv => lhs; unfold pruneZ
  rw [if_neg (by omega), hx]

theorem prune_keeps (L : List Hz) (N : List Int) (k : Int) : ∀ (f : Nat) {E : Eg}, RelM N E → RelM N (pruneZ L N k f E) ∧ (pruneZ L N k f E).length ≤ E.length := by
  intro f
  induction f with
  | zero => intro E h; exact ⟨h, Nat.le_refl _⟩
  | succ f ih =>
    intro E h
    unfold pruneZ
    split
    · exact ⟨h, Nat.le_refl _⟩
    · rename_i hl
      obtain ⟨x, hx, hm, -⟩ := soft_some (L := L) (by omega : 4 < (nearD E k true).length)
      rw [hx]
      obtain ⟨h1, h2⟩ := cut_soft h hm
      obtain ⟨h3, h4⟩ := ih h2
      exact ⟨h3, by simp only; omega⟩

theorem bind_lenM (N : List Int) (E : Eg) (a b : Int) : (bindD N E a b).2.length ≤ E.length + 1 := by
  unfold bindD
  split
  · exact Nat.le_succ _
  · split
    · simp
    · split
      · exact Nat.le_succ _
      · simp

theorem link_lenM (N : List Int) (E : Eg) (a b : Int) : (linkD N E a b).2.length ≤ E.length + 1 := by
  unfold linkD
  split
  · exact Nat.le_succ _
  · split
    · simp
    · exact Nat.le_succ _

theorem RelM.bind {N : List Int} {E : Eg} (h : RelM N E) (a b : Int) : RelM N (bindD N E a b).2 := by obtain ⟨Q, hr⟩ := h; exact ⟨_, (hr.bind a b).2.1⟩
theorem RelM.link {N : List Int} {E : Eg} (h : RelM N E) (a b : Int) : RelM N (linkD N E a b).2 := by obtain ⟨Q, hr⟩ := h; exact ⟨_, (hr.link a b).2.1⟩
theorem RelM.add {N : List Int} {E : Eg} (h : RelM N E) {k : Int} (hk : k ∉ N) : RelM (putZ N k) E := by obtain ⟨Q, hr⟩ := h; exact ⟨_, hr.add hk 0⟩
theorem RelM.egs {N : List Int} {E : Eg} (h : RelM N E) : Egs N E := by obtain ⟨Q, hr⟩ := h; exact hr.egs

theorem link_keeps (N : List Int) (k : Int) (nr : List Hz) : ∀ (j : Nat) {E : Eg}, RelM N E → RelM N (linkN N k nr j E) ∧ (linkN N k nr j E).length ≤ E.length + j := by
  intro j
  induction j with
  | zero => intro E h; exact ⟨h, Nat.le_refl _⟩
  | succ j ih =>
    intro E h
    obtain ⟨h1, h2⟩ := ih h
    unfold linkN
    split
    · exact ⟨h1, by omega⟩
    · rename_i y _
      split
      · have := bind_lenM N (linkN N k nr j E) k y.id
        exact ⟨h1.bind _ _, by omega⟩
      · have := link_lenM N (linkN N k nr j E) k y.id
        exact ⟨h1.link _ _, by omega⟩

theorem pruneN_keeps (L : List Hz) (N : List Int) (nr : List Hz) : ∀ (j : Nat) {E : Eg}, RelM N E → RelM N (pruneN L N nr j E) ∧ (pruneN L N nr j E).length ≤ E.length := by
  intro j
  induction j with
  | zero => intro E h; exact ⟨h, Nat.le_refl _⟩
  | succ j ih =>
    intro E h
    obtain ⟨h1, h2⟩ := ih h
    unfold pruneN
    split
    · exact ⟨h1, h2⟩
    · rename_i y _
      have := prune_keeps L N y.id (pruneN L N nr j E).length h1
      exact ⟨this.1, by omega⟩

theorem nearM_len (s : Mz) (v : List Int) : (nearM s v).length ≤ 4 := by
  unfold nearM
  split
  · simp
  · exact List.length_take_le _ _

theorem OkM.new {dim : Int} {s : Mz} (h : OkM dim s) {k : Int} {v : List Int} (hv : rightZ dim v = true) (hk : k ∉ s.N) : OkM dim (newM s k v) := by
  have h1 := link_keeps (putZ s.N k) k (nearM s v) (nearM s v).length (h.rel.add hk)
  have h2 := pruneN_keeps (s.L ++ [⟨k, 0, v⟩]) (putZ s.N k) (nearM s v) (nearM s v).length h1.1
  refine ⟨h2.1, fun x => ?_, ?_, fun y hy => ?_, ?_⟩
  · simp only [newM, mem_putZ, List.map_append, List.mem_append, List.map_cons, List.map_nil, List.mem_singleton, h.same]
    constructor
    · rintro (e | e)
      · exact .inr e
      · exact .inl e
    · rintro (e | e)
      · exact .inr e
      · exact .inl e
  · simp only [newM, List.map_append, List.map_cons, List.map_nil]
    rw [List.nodup_append]
    refine ⟨h.once, by simp, fun a ha b hb e => hk ((h.same k).2 ?_)⟩
    simp only [List.mem_singleton] at hb
    rw [← hb, ← e]; exact ha
  · rcases List.mem_append.1 hy with hy | hy
    · exact h.vecs y hy
    · obtain rfl : y = ⟨k, 0, v⟩ := by simpa using hy
      exact ⟨hv, rfl⟩
  · have h3 := nearM_len s v
    have h4 := h.few
    simp only [newM, List.length_append, List.length_singleton]
    omega

theorem OkM.put {dim : Int} {s : Mz} (h : OkM dim s) (k : Int) (v : List Int) : OkM dim (putM dim s k v).2 := by
  unfold putM
  cases hv : rightZ dim v with
  | false => rw [if_pos rfl]; exact h
  | true =>
    rw [if_neg (by simp)]
    split
    · exact h
    · rename_i hk; exact h.new hv hk

def emptyM : Mz := ⟨[], [], []⟩
theorem OkM.empty (dim : Int) : OkM dim emptyM := ⟨⟨[], Rel.start List.Pairwise.nil (fun _ => Iff.rfl) (by simp)⟩, by simp [emptyM], by simp [emptyM], by simp [emptyM], by simp [emptyM]⟩

end Go.Proofs.YtpjbkaibgajpcaaGreat

namespace Go.Proofs.YtpjbkaibgajpcaaGreat
open Go.RowKit Go.ChangeMaps
set_option maxRecDepth 20000

structure MzAt (B : Nat) (w : World) (z p m mv : Nat) (Q : Gr) (dim en : Int) (VL : List (Int × Value)) (s : Mz) : Prop where
  cell : w.heap[z]? = some (.cells #[.pointer (some ⟨p, 0, none⟩), .int .i64 dim, .map (some mv), .int .u64 en] 85 (0, 0))
  gp : GP B p m Q s.N s.E w
  vecs : MapAt w (Value.int .u64) mv VL
  apart : mv ≠ m ∧ ¬ BlocksOf Q mv
  vals : ∀ h ∈ s.L, ∃ v, getK VL h.id = some v ∧ w.ownsRow B 21 1 v h.vec.length (h.vec.map (Value.int .i32))
  missing : ∀ k, k ∉ s.L.map (fun h : Hz => h.id) → getK VL k = none
  low : B ≤ z ∧ B ≤ mv

theorem zeroI32s (w : World) : (zeroValue 23).run Tryz.prog w = .ok (.slice none 0 0) w := Tryz.zeroValue23 w

section
variable {B : Nat} {w w' : World} {z p m mv : Nat} {Q : Gr} {dim en : Int} {VL : List (Int × Value)} {s : Mz}

theorem MzAt.below (h : MzAt B w z p m mv Q dim en VL s) (hb : Below w.heap.size w w') : MzAt B w' z p m mv Q dim en VL s :=
  ⟨(hb.block z (lt_block h.cell)).trans h.cell, h.gp.below hb, h.vecs.kept (hb.block mv h.vecs.lt), h.apart, fun y hy => by obtain ⟨v, h1, h2⟩ := h.vals y hy; exact ⟨v, h1, own_below h2 hb⟩, h.missing, h.low⟩

theorem MzAt.other (h : MzAt B w z p m mv Q dim en VL s) {F : Nat → Prop} (hm : Mod F w w') (hF : ∀ j, F j → ∃ T, OfType w T j ∧ T ≠ 85 ∧ T ≠ 125 ∧ T ≠ 21) : MzAt B w' z p m mv Q dim en VL s := by
  have hmap : ∀ j, IsMap w j → w'.heap[j]? = w.heap[j]? := fun j hj => by
    obtain ⟨es, c, h1⟩ := id hj
    refine hm.block j (lt_block h1) fun hf => ?_
    obtain ⟨T, ht, -⟩ := hF j hf
    exact hj.no ht
  refine ⟨(hm.block z (lt_block h.cell) fun hf => ?_).trans h.cell, ⟨⟨(hm.block p (lt_block h.gp.g.cell) fun hf => ?_).trans h.gp.g.cell, h.gp.g.outer.kept (hmap m h.gp.g.outer.isMap), fun q hq => (h.gp.g.inner q hq).kept (hmap _ (h.gp.g.inner q hq).isMap), h.gp.g.apart⟩, h.gp.rel, h.gp.low, Nat.le_trans h.gp.big hm.size⟩, h.vecs.kept (hmap mv h.vecs.isMap), h.apart, fun y hy => ?_, h.missing, h.low⟩
  · obtain ⟨T, ht, h1, -⟩ := hF z hf
    exact h1 (ht.ne ⟨_, _, h.cell⟩)
  · obtain ⟨T, ht, -, h1, -⟩ := hF p hf
    exact h1 (ht.ne ⟨_, _, h.gp.g.cell⟩)
  · obtain ⟨v, h1, h2⟩ := h.vals y hy
    refine ⟨v, h1, own_agree h2 fun k hk => hm.block k (h2.lt k hk).2 fun hf => ?_⟩
    obtain ⟨T, ht, -, -, h3⟩ := hF k hf
    exact h3 (ht.ne (own_type h2 hk))

theorem vec_of {L : List Hz} (ho : (L.map (fun h : Hz => h.id)).Nodup) {y : Hz} (hy : y ∈ L) : vecOf L y.id = y.vec := by
  unfold vecOf
  have : L.find? (fun h => decide (h.id = y.id)) = some y := by
    induction L with
    | nil => cases hy
    | cons a L ih =>
      rw [List.map_cons, List.nodup_cons] at ho
      rcases List.mem_cons.1 hy with rfl | hy
      · rw [List.find?_cons_of_pos (by simp)]
      · rw [List.find?_cons_of_neg, ih ho.2 hy]
        simp only [decide_eq_true_eq]
        intro e
        exact ho.1 (e ▸ List.mem_map_of_mem (f := fun y : Hz => y.id) hy)
  rw [this]; rfl

theorem vec_none {L : List Hz} {k : Int} (hk : k ∉ L.map (fun h : Hz => h.id)) : vecOf L k = [] := by
  unfold vecOf
  rw [List.find?_eq_none.2 fun y hy => ?_]
  · rfl
  · simp only [decide_eq_true_eq]
    intro e
    exact hk (e ▸ List.mem_map_of_mem (f := fun y : Hz => y.id) hy)

theorem MzAt.vec (h : MzAt B w z p m mv Q dim en VL s) (ok : OkM dim s) (k : Int) : Nums w .i32 ((getK VL k).getD (.slice none 0 0)) (vecOf s.L k) ∧ ((getK VL k).isSome = true ↔ k ∈ s.N) := by
  by_cases hk : k ∈ s.L.map (fun h : Hz => h.id)
  · obtain ⟨y, hy, rfl⟩ := List.mem_map.1 hk
    obtain ⟨v, h1, h2⟩ := h.vals y hy
    rw [h1, vec_of ok.once hy]
    exact ⟨Nums.of_own h2, by simp only [Option.isSome_some, true_iff]; exact (ok.same _).2 hk⟩
  · rw [h.missing k hk, vec_none hk]
    exact ⟨nums_none w, by simp only [Option.isSome_none, Bool.false_eq_true, false_iff]; exact fun hn => hk ((ok.same k).1 hn)⟩

theorem MzAt.look (h : MzAt B w z p m mv Q dim en VL s) (k : Int) (c : Bool) : (Instr.lookup 83 (.map (some mv)) (.int .u64 k) c).run Tryz.prog w = .ok (if c then .tuple #[(getK VL k).getD (.slice none 0 0), .bool (getK VL k).isSome] else (getK VL k).getD (.slice none 0 0)) w :=
  run_look (P := Tryz.prog) (int_keyOf Tryz.underlying36) Tryz.underlying83 h.vecs (zeroI32s w) k c
end

theorem mGraph (w : World) (z p : Nat) (h : w.cell? ⟨z, 0, none⟩ = some (.pointer (some ⟨p, 0, none⟩))) :
    Calls Tryz.prog 39 #[.pointer (some ⟨z, 0, none⟩)] w fun e w' => e = .returned (.pointer (some ⟨p, 0, none⟩)) ∧ w' = w := by
  go_enter Tryz.func39, Tryz.ntmps39
  go_wp2_with fail
  go_ret
  exact ⟨rfl, rfl⟩


theorem mNear (w : World) (zp gp : Value) (k : Int) (l : List Int) (hg : Calls Tryz.prog 39 #[zp] w fun e w' => e = .returned gp ∧ w' = w) (hc : Calls Tryz.prog 45 #[gp, .int .u64 k] w (NewL w l)) :
    Calls Tryz.prog 22 #[zp, .int .u64 k] w (NewL w l) := by
  have cG := Lib.hid hg
  have cC := Lib.hid hc
  clear hg hc
  go_enter Tryz.func22, Tryz.ntmps22
  go_wp2_with fail
  (with_reducible refine cG.out.mono ?_)
  rintro e w1 ⟨rfl, rfl⟩
  go_wp2_with fail
  (with_reducible refine cC.out.mono ?_)
  rintro e w2 ⟨v, rfl, ho, hb⟩
  have HB := Lib.hid (And.intro ho hb)
  clear ho hb
  go_wp2_with fail
  go_ret
  exact ⟨v, rfl, HB.out.1, HB.out.2⟩

theorem mSoft (w : World) (zp gp : Value) (k : Int) (l : List Int) (hg : Calls Tryz.prog 39 #[zp] w fun e w' => e = .returned gp ∧ w' = w) (hc : Calls Tryz.prog 44 #[gp, .int .u64 k] w (NewL w l)) :
    Calls Tryz.prog 21 #[zp, .int .u64 k] w (NewL w l) := by
  have cG := Lib.hid hg
  have cC := Lib.hid hc
  clear hg hc
  go_enter Tryz.func21, Tryz.ntmps21
  go_wp2_with fail
  (with_reducible refine cG.out.mono ?_)
  rintro e w1 ⟨rfl, rfl⟩
  go_wp2_with fail
  (with_reducible refine cC.out.mono ?_)
  rintro e w2 ⟨v, rfl, ho, hb⟩
  have HB := Lib.hid (And.intro ho hb)
  clear ho hb
  go_wp2_with fail
  go_ret
  exact ⟨v, rfl, HB.out.1, HB.out.2⟩

theorem mReach (w : World) (zp gp : Value) (k : Int) (l : List Int) (hg : Calls Tryz.prog 39 #[zp] w fun e w' => e = .returned gp ∧ w' = w) (hc : Calls Tryz.prog 51 #[gp, .int .u64 k] w (NewL w l)) :
    Calls Tryz.prog 28 #[zp, .int .u64 k] w (NewL w l) := by
  have cG := Lib.hid hg
  have cC := Lib.hid hc
  clear hg hc
  go_enter Tryz.func28, Tryz.ntmps28
  go_wp2_with fail
  (with_reducible refine cG.out.mono ?_)
  rintro e w1 ⟨rfl, rfl⟩
  go_wp2_with fail
  (with_reducible refine cC.out.mono ?_)
  rintro e w2 ⟨v, rfl, ho, hb⟩
  have HB := Lib.hid (And.intro ho hb)
  clear ho hb
  go_wp2_with fail
  go_ret
  exact ⟨v, rfl, HB.out.1, HB.out.2⟩

theorem mKeys (w : World) (zp gp : Value) (_k : Int) (l : List Int) (hg : Calls Tryz.prog 39 #[zp] w fun e w' => e = .returned gp ∧ w' = w) (hc : Calls Tryz.prog 43 #[gp] w (NewL w l)) :
    Calls Tryz.prog 20 #[zp] w (NewL w l) := by
  have cG := Lib.hid hg
  have cC := Lib.hid hc
  clear hg hc
  go_enter Tryz.func20, Tryz.ntmps20
  go_wp2_with fail
  (with_reducible refine cG.out.mono ?_)
  rintro e w1 ⟨rfl, rfl⟩
  go_wp2_with fail
  (with_reducible refine cC.out.mono ?_)
  rintro e w2 ⟨v, rfl, ho, hb⟩
  have HB := Lib.hid (And.intro ho hb)
  clear ho hb
  go_wp2_with fail
  go_ret
  exact ⟨v, rfl, HB.out.1, HB.out.2⟩

theorem mHas (w : World) (zp gp : Value) (k : Int) (b : Bool) (hg : Calls Tryz.prog 39 #[zp] w fun e w' => e = .returned gp ∧ w' = w) (hc : Calls Tryz.prog 80 #[gp, .int .u64 k] w fun e w' => e = .returned (.bool b) ∧ w' = w) :
    Calls Tryz.prog 50 #[zp, .int .u64 k] w fun e w' => e = .returned (.bool b) ∧ w' = w := by
  have cG := Lib.hid hg
  have cC := Lib.hid hc
  clear hg hc
  go_enter Tryz.func50, Tryz.ntmps50
  go_wp2_with fail
  (with_reducible refine cG.out.mono ?_)
  rintro e w1 ⟨rfl, rfl⟩
  go_wp2_with fail
  (with_reducible refine cC.out.mono ?_)
  rintro e w2 ⟨rfl, rfl⟩
  go_wp2_with fail
  go_ret
  exact ⟨rfl, rfl⟩

theorem mLen (w : World) (zp gp : Value) (n : Int) (hg : Calls Tryz.prog 39 #[zp] w fun e w' => e = .returned gp ∧ w' = w) (hc : Calls Tryz.prog 40 #[gp] w fun e w' => e = .returned (.int .i64 n) ∧ w' = w) :
    Calls Tryz.prog 15 #[zp] w fun e w' => e = .returned (.int .i64 n) ∧ w' = w := by
  have cG := Lib.hid hg
  have cC := Lib.hid hc
  clear hg hc
  go_enter Tryz.func15, Tryz.ntmps15
  go_wp2_with fail
  (with_reducible refine cG.out.mono ?_)
  rintro e w1 ⟨rfl, rfl⟩
  go_wp2_with fail
  (with_reducible refine cC.out.mono ?_)
  rintro e w2 ⟨rfl, rfl⟩
  go_wp2_with fail
  go_ret
  exact ⟨rfl, rfl⟩

section
variable {B : Nat} {w w' : World} {z p m mv : Nat} {Q : Gr} {dim en : Int} {VL : List (Int × Value)} {s : Mz}

theorem MzAt.graph (h : MzAt B w z p m mv Q dim en VL s) : Calls Tryz.prog 39 #[.pointer (some ⟨z, 0, none⟩)] w fun e w' => e = .returned (.pointer (some ⟨p, 0, none⟩)) ∧ w' = w := mGraph w z p (cellsB h.cell 0)

theorem MzAt.near (h : MzAt B w z p m mv Q dim en VL s) (hl : s.N.length ≤ 100000) (k : Int) : Calls Tryz.prog 22 #[.pointer (some ⟨z, 0, none⟩), .int .u64 k] w (NewL w (nearD s.E k false)) := mNear w _ _ k _ h.graph (h.gp.near hl k)
theorem MzAt.soft (h : MzAt B w z p m mv Q dim en VL s) (hl : s.N.length ≤ 100000) (k : Int) : Calls Tryz.prog 21 #[.pointer (some ⟨z, 0, none⟩), .int .u64 k] w (NewL w (nearD s.E k true)) := mSoft w _ _ k _ h.graph (h.gp.soft hl k)
theorem MzAt.reach (h : MzAt B w z p m mv Q dim en VL s) (hl : s.N.length ≤ 100000) (k : Int) : Calls Tryz.prog 28 #[.pointer (some ⟨z, 0, none⟩), .int .u64 k] w (NewL w (reachD s.N s.E k false)) := mReach w _ _ k _ h.graph (h.gp.reach hl k)
theorem MzAt.keys (h : MzAt B w z p m mv Q dim en VL s) (hl : s.N.length ≤ 100000) : Calls Tryz.prog 20 #[.pointer (some ⟨z, 0, none⟩)] w (NewL w s.N) := mKeys w _ _ 0 _ h.graph (h.gp.keys hl)
theorem MzAt.has (h : MzAt B w z p m mv Q dim en VL s) (k : Int) : Calls Tryz.prog 50 #[.pointer (some ⟨z, 0, none⟩), .int .u64 k] w fun e w' => e = .returned (.bool (decide (k ∈ s.N))) ∧ w' = w := mHas w _ _ k _ h.graph (h.gp.has k)
theorem MzAt.length (h : MzAt B w z p m mv Q dim en VL s) : Calls Tryz.prog 15 #[.pointer (some ⟨z, 0, none⟩)] w fun e w' => e = .returned (.int .i64 s.N.length) ∧ w' = w := mLen w _ _ _ h.graph h.gp.length
end

theorem mRight (w : World) (z : Nat) (dim : Int) (v : Value) (xs : List Int) (h : w.cell? ⟨z, 1, none⟩ = some (.int .i64 dim)) (hv : Nums w .i32 v xs) :
    Calls Tryz.prog 37 #[.pointer (some ⟨z, 0, none⟩), v] w fun e w' => e = .returned (.bool (rightZ dim xs)) ∧ w' = w := by
  have cR := Lib.hid (right xs v w hv)
  obtain ⟨q, c, rfl, -, -, -, -⟩ := hv.slice
  clear hv
  unfold rightZ
  cases hr : rightB xs with
  | false =>
    rw [hr] at cR
    clear hr
    go_enter Tryz.func37, Tryz.ntmps37
    go_wp2_with fail
    (with_reducible refine cR.out.mono ?_)
    rintro e w1 ⟨rfl, rfl⟩
    go_wp2_with fail
    go_ret
    exact ⟨rfl, rfl⟩
  | true =>
    rw [hr] at cR
    clear hr
    go_enter Tryz.func37, Tryz.ntmps37
    go_wp2_with fail
    (with_reducible refine cR.out.mono ?_)
    rintro e w1 ⟨rfl, rfl⟩
    go_wp2_with fail
    go_ret
    exact ⟨ret_bool (by rw [Bool.eq_iff_iff]; simp), rfl⟩

set_option maxRecDepth 100000 in
theorem mFar {B : Nat} {w : World} {z p m mv : Nat} {Q : Gr} {dim en : Int} {VL : List (Int × Value)} {s : Mz} (h : MzAt B w z p m mv Q dim en VL s) (ok : OkM dim s) (v : Value) (xs : List Int) (hv : Nums w .i32 v xs) (_hx : rightZ dim xs = true) (k : Int) :
    Calls Tryz.prog 152 #[.agg #[.pointer (some ⟨z, 0, none⟩), v], .int .u64 k] w fun e w' => ∃ u, e = .returned u ∧ u = .tuple #[.int .u64 ((farL (spaceZ s.L xs) k).getD 0), .bool (farL (spaceZ s.L xs) k).isSome] ∧ Below w.heap.size w w' := by
  obtain ⟨q, c, rfl, -, -, -, -⟩ := hv.slice
  obtain ⟨W, hW⟩ : ∃ W, W = w.alloc (.cells #[.pointer (some ⟨z, 0, none⟩), .slice q xs.length c] 79) := ⟨_, rfl⟩
  have hb : Below w.heap.size w W := by rw [hW]; exact (Below.refl _ _).alloc (Nat.le_refl _) _
  have y1 : W.heap[w.heap.size]? = some (.cells #[.pointer (some ⟨z, 0, none⟩), .slice q xs.length c] 79 (0, 0)) := by rw [hW]; exact heap_alloc_new _ _
  have H := Lib.hid (h.below hb)
  have V := Lib.hid (hv.below hb)
  have t0 := cellsB y1 0
  have t1 := cellsB y1 1
  have c2 := cellsB H.out.cell 2
  have LK := H.out.look k true
  simp only [if_true] at LK
  obtain ⟨e1, e2⟩ := H.out.vec ok k
  have BB := Lib.hid hb
  have HW := Lib.hid hW
  by_cases hk : k ∈ s.L.map (fun h : Hz => h.id)
  · obtain ⟨y, hy, hyk⟩ := List.mem_map.1 hk
    have hvy : vecOf s.L k = y.vec := by rw [← hyk]; exact vec_of ok.once hy
    have hf : farL (spaceZ s.L xs) k = some (distR xs y.vec).1 := by
      have h1 : ((spaceZ s.L xs).map fun h : Hz => h.id).Nodup := by
        unfold spaceZ
        rw [List.map_map]
        exact ok.once
      have h2 : hitK y.id (distR xs y.vec).1 ∈ spaceZ s.L xs := List.mem_map_of_mem (f := fun h : Hz => hitK h.id (distR xs h.vec).1) hy
      have h3 := farL_of h1 h2
      rw [← hyk]; exact h3
    have hs : (getK VL k).isSome = true := e2.2 ((ok.same k).2 hk)
    rw [hs] at LK
    rw [hvy] at e1
    obtain ⟨u, hu⟩ : ∃ u, u = (getK VL k).getD (.slice none 0 0) := ⟨_, rfl⟩
    rw [← hu] at LK e1
    have cD := Lib.hid (dist xs y.vec _ u W V.out e1)
    obtain ⟨uq, uc, rfl, -, -, -, -⟩ := e1.slice
    rw [hf]
    obtain ⟨d, hd⟩ : ∃ d, d = distR xs y.vec := ⟨_, rfl⟩
    rw [← hd] at cD ⊢
    clear hk hy hyk hvy hf hs e1 e2 hu hd hb y1 hW
    go_enter Tryz.func152, Tryz.ntmps152
    rw [HW.out] at t0 t1 c2 LK
    go_wp2_with fail
    rw [← HW.out]
    (with_reducible refine cD.out.mono ?_)
    rintro e w1 ⟨rfl, rfl⟩
    go_wp2_with fail
    go_ret2
    exact ⟨_, rfl, rfl, BB.out⟩
  · have hf : farL (spaceZ s.L xs) k = none := by
      cases hf : farL (spaceZ s.L xs) k with
      | none => rfl
      | some d =>
        have := farL_key hf
        unfold spaceZ at this
        rw [List.map_map] at this
        exact absurd this hk
    have hs : (getK VL k).isSome = false := by rw [H.out.missing k hk]; rfl
    rw [hs] at LK
    rw [hf]
    obtain ⟨u, hu⟩ : ∃ u, u = (getK VL k).getD (.slice none 0 0) := ⟨_, rfl⟩
    rw [← hu] at LK e1
    obtain ⟨uq, uc, rfl, -, -, -, -⟩ := e1.slice
    clear hk hf hs e1 e2 hu hb y1
    go_enter Tryz.func152, Tryz.ntmps152
    rw [hW] at t0 t1 c2 LK
    clear hW
    go_wp2_with fail
    go_ret2
    exact ⟨_, rfl, rfl, by rw [← HW.out]; exact BB.out⟩

end Go.Proofs.YtpjbkaibgajpcaaGreat
