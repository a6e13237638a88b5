import Derived.Test.YtidaecdlpjfngaaVecA
namespace Go.Proofs.Ytidaecdlpjfngaa
open Go.RowKit

/-- how far two lists of numbers are apart -/
def distZ : List Int → List Int → Int
  | x :: xs, y :: ys => (x - y) * (x - y) + distZ xs ys
  | _, _ => 0

theorem sq_nonneg (x : Int) : 0 ≤ x * x := by
  rcases Int.le_total 0 x with h | h
  · exact Int.mul_nonneg h h
  · exact Int.mul_nonneg_of_nonpos_of_nonpos h h

theorem sq_le (x m : Int) (h1 : -m ≤ x) (h2 : x ≤ m) : x * x ≤ m * m := by
  have h : 0 ≤ (m - x) * (m + x) := Int.mul_nonneg (by omega) (by omega)
  have e : (m - x) * (m + x) = m * m - x * x := by
    rw [Int.sub_mul, Int.mul_add, Int.mul_add, Int.mul_comm x m]; omega
  omega

theorem distZ_snoc (xs ys : List Int) (k : Nat) (h1 : k < xs.length) (h2 : k < ys.length) :
    distZ (xs.take (k + 1)) (ys.take (k + 1)) = distZ (xs.take k) (ys.take k) + (xs[k] - ys[k]) * (xs[k] - ys[k]) := by
  induction xs generalizing ys k with
  | nil => simp at h1
  | cons x xs ih =>
    cases ys with
    | nil => simp at h2
    | cons y ys =>
      cases k with
      | zero => simp [distZ]
      | succ k =>
        simp only [List.take_succ_cons, distZ, List.getElem_cons_succ]
        rw [ih ys k (by simpa using h1) (by simpa using h2)]
        omega

def inB (xs : List Int) : Prop := ∀ j (h : j < xs.length), -268435456 ≤ xs[j] ∧ xs[j] ≤ 268435456

theorem inB_of_right {xs : List Int} (h : rightB xs = true) : inB xs ∧ 0 < xs.length ∧ xs.length ≤ 8 := by
  simp only [rightB, Bool.and_eq_true, decide_eq_true_eq, Bool.not_eq_true', List.any_eq_false] at h
  refine ⟨fun j hj => ?_, h.1.1, h.1.2⟩
  have := h.2 _ (List.getElem_mem hj)
  simp only [outB, Bool.or_eq_true, decide_eq_true_eq] at this
  omega

theorem sq_in {xs ys : List Int} (hx : inB xs) (hy : inB ys) (k : Nat) (h1 : k < xs.length) (h2 : k < ys.length) :
    0 ≤ (xs[k] - ys[k]) * (xs[k] - ys[k]) ∧ (xs[k] - ys[k]) * (xs[k] - ys[k]) ≤ 288230376151711744 := by
  refine ⟨sq_nonneg _, ?_⟩
  have a := hx k h1
  have b := hy k h2
  exact Int.le_trans (sq_le _ 536870912 (by omega) (by omega)) (by decide)

theorem distZ_in {xs ys : List Int} (hx : inB xs) (hy : inB ys) (hl : xs.length = ys.length) (k : Nat) (hk : k ≤ xs.length) :
    0 ≤ distZ (xs.take k) (ys.take k) ∧ distZ (xs.take k) (ys.take k) ≤ k * 288230376151711744 := by
  induction k with
  | zero => simp [distZ]
  | succ k ih =>
    have ih := ih (by omega)
    have s := sq_in hx hy k (by omega) (by omega)
    rw [distZ_snoc xs ys k (by omega) (by omega)]
    omega

/-- what Dist answers -/
def distR (xs ys : List Int) : Int × Int :=
  if rightB xs = true ∧ rightB ys = true ∧ xs.length = ys.length then (distZ xs ys, 0) else (0, 4)

theorem dist_no (xs ys : List Int) (v u : Value) (w : World) (h : Nums w .i32 v xs) (g : Nums w .i32 u ys) (hn : ¬ (rightB xs = true ∧ rightB ys = true ∧ xs.length = ys.length)) :
    Calls Try.prog 13 #[v, u] w fun e w' => e = .returned (.tuple #[.int .u64 0, .int .i64 4]) ∧ w = w' := by
  obtain ⟨p, cap, rfl, hcap, hbig, -, hc⟩ := h.slice
  have hl : xs.length ≤ 9223372036854775807 := by omega
  clear hcap hbig
  obtain ⟨q, cap', rfl, hcap', hbig', -, hc'⟩ := g.slice
  have hl' : ys.length ≤ 9223372036854775807 := by omega
  clear hcap' hbig'
  clear hc hc'
  have H := Lib.hid h
  have G := Lib.hid g
  clear h g
  have N := Lib.hid hn
  clear hn
  cases h1 : rightB xs
  · go_enter Try.func13, Try.ntmps13
    go_wp2_with (go_at_call 15; refine (right xs _ _ H.out).mono ?_; rintro e w' ⟨rfl, rfl⟩)
    go_ret2
    exact ⟨rfl, rfl⟩
  cases h2 : rightB ys
  · go_enter Try.func13, Try.ntmps13
    go_wp2_with (go_at_call 15; first | ((with_reducible refine (right xs _ _ H.out).mono ?_); rintro e w' ⟨rfl, rfl⟩) | ((with_reducible refine (right ys _ _ G.out).mono ?_); rintro e w' ⟨rfl, rfl⟩))
    go_ret2
    exact ⟨rfl, rfl⟩
  · have h4 : ((xs.length : Int) != ys.length) = true := by
      have h3 : xs.length ≠ ys.length := fun h3 => N.out ⟨h1, h2, h3⟩
      simp; omega
    go_enter Try.func13, Try.ntmps13
    go_wp2_with (go_at_call 15; first | ((with_reducible refine (right xs _ _ H.out).mono ?_); rintro e w' ⟨rfl, rfl⟩) | ((with_reducible refine (right ys _ _ G.out).mono ?_); rintro e w' ⟨rfl, rfl⟩))
    go_ret2
    exact ⟨rfl, rfl⟩

theorem dist_yes (xs ys : List Int) (v u : Value) (w : World) (h : Nums w .i32 v xs) (g : Nums w .i32 u ys) (h1 : rightB xs = true) (h2 : rightB ys = true) (h3 : xs.length = ys.length) :
    Calls Try.prog 13 #[v, u] w fun e w' => e = .returned (.tuple #[.int .u64 (distZ xs ys), .int .i64 0]) ∧ w = w' := by
  obtain ⟨p, cap, rfl, hcap, hbig, -, hc⟩ := h.slice
  have hl : xs.length ≤ 9223372036854775807 := by omega
  clear hcap hbig
  obtain ⟨q, cap', rfl, hcap', hbig', -, hc'⟩ := g.slice
  have hl' : ys.length ≤ 9223372036854775807 := by omega
  clear hcap' hbig'
  have h4 : ((xs.length : Int) != ys.length) = false := by simp [h3]
  have hx := inB_of_right h1
  have hy := inB_of_right h2
  have X := Lib.hid (And.intro hx.1 hy.1)
  have C := Lib.hid hc
  have C' := Lib.hid hc'
  have H := Lib.hid h
  have G := Lib.hid g
  have H3 := Lib.hid h3
  clear h g hx hy hc hc' h3
  go_enter Try.func13, Try.ntmps13
  go_wp2_with (go_at_call 15; first | ((with_reducible refine (right xs _ _ H.out).mono ?_); rintro e w' ⟨rfl, rfl⟩) | ((with_reducible refine (right ys _ _ G.out).mono ?_); rintro e w' ⟨rfl, rfl⟩))
  go_loop [6, 27] (fun s i => ∃ k : Nat, k ≤ xs.length ∧ i = .int .i64 k ∧ s = .int .u64 (distZ (xs.take k) (ys.take k))) (fun _ i => xs.length - (intOf i).toNat)
  case atStart => exact ⟨0, by omega, rfl, rfl⟩
  case round =>
    obtain ⟨k, hk, rfl, rfl⟩ := hrel
    by_cases hlt : k < xs.length
    · have hlt' : k < ys.length := by have := H3.out; omega
      obtain ⟨b, off, rfl, hcell⟩ := C.out k hlt
      obtain ⟨b', off', rfl, hcell'⟩ := C'.out k hlt'
      have hs := sq_in X.out.1 X.out.2 k hlt hlt'
      have hd := distZ_in X.out.1 X.out.2 H3.out k hk
      have hi := X.out.1 k hlt
      have hi' := X.out.2 k hlt'
      have hsn := Lib.hid (distZ_snoc xs ys k hlt hlt')
      have l8 : xs.length ≤ 8 := (inB_of_right h1).2.2
      go_wp2
      go_round
      case rel => exact ⟨k + 1, by omega, by go_num, by rw [hsn.out]⟩
      case measure => simp [intOf]; omega
    · go_wp2
      go_ret2
      have h3 := H3.out
      exact ⟨ret_ii (by rw [List.take_of_length_le (by omega), List.take_of_length_le (by omega)]) rfl, rfl⟩

theorem dist (xs ys : List Int) (v u : Value) (w : World) (h : Nums w .i32 v xs) (g : Nums w .i32 u ys) :
    Calls Try.prog 13 #[v, u] w fun e w' => e = .returned (.tuple #[.int .u64 (distR xs ys).1, .int .i64 (distR xs ys).2]) ∧ w = w' := by
  unfold distR
  split
  · rename_i hn
    exact dist_yes xs ys v u w h g hn.1 hn.2.1 hn.2.2
  · rename_i hn
    exact dist_no xs ys v u w h g hn

end Go.Proofs.Ytidaecdlpjfngaa
