import Derived.Test.YtidaecdlpjfngaaVecD
namespace Go.Proofs.Ytidaecdlpjfngaa
open Go.RowKit

/-- a hit, but its vector: its ID and how far it is -/
def nearB (i d j e : Int) : Bool := decide (d < e) || (decide (d = e) && decide (i < j))

theorem nearer (i d j e : Int) (v u : Value) (w : World) :
    Calls Try.prog 16 #[.agg #[.int .u64 i, .int .u64 d, v], .agg #[.int .u64 j, .int .u64 e, u]] w fun r w' => r = .returned (.bool (nearB i d j e)) ∧ Below w.heap.size w w' := by
  by_cases h1 : d < e
  · go_enter Try.func16, Try.ntmps16
    go_wp2
    go_ret
    exact ⟨ret_bool (by simp [nearB, h1]), by go_grown⟩
  · have hd : decide (d < e) = false := by simp; omega
    by_cases h2 : d = e
    · have hde : (d == e) = true := by simp [h2]
      have E := Lib.hid h2
      clear h2
      go_enter Try.func16, Try.ntmps16
      go_wp2
      go_ret
      exact ⟨ret_bool (by have := E.out; simp [nearB, this]), by go_grown⟩
    · have hde : (d == e) = false := by simp [h2]
      go_enter Try.func16, Try.ntmps16
      go_wp2
      go_ret
      exact ⟨ret_bool (by simp [nearB, h1, h2]), by go_grown⟩

theorem refNearer (i d j e : Int) (v u : Value) (w : World) :
    Calls Try.prog 17 #[.agg #[.int .u64 i, .int .u64 d, v], .agg #[.int .u64 j, .int .u64 e, u]] w fun r w' => r = .returned (.bool (nearB i d j e)) ∧ Below w.heap.size w w' := by
  by_cases h2 : d = e
  · have hde : (d != e) = false := by simp [h2]
    have E := Lib.hid h2
    clear h2
    go_enter Try.func17, Try.ntmps17
    go_wp2
    go_ret
    exact ⟨ret_bool (by have := E.out; simp [nearB, this]), by go_grown⟩
  · have hde : (d != e) = true := by simp [h2]
    go_enter Try.func17, Try.ntmps17
    go_wp2
    go_ret
    exact ⟨ret_bool (by simp [nearB, h2]), by go_grown⟩

/-- which shard's an ID is -/
def homeZ (id n : Int) : Int := if n < 1 then 0 else IntKind.u64.wrap (id * 11400714819323198485) / 4294967296 % n

theorem u64_range (x : Int) : 0 ≤ IntKind.u64.wrap x ∧ IntKind.u64.wrap x ≤ 18446744073709551615 := by
  simp only [IntKind.wrap, IntKind.bits, IntKind.signed]; simp; omega

theorem home_no (id n : Int) (w : World) (h : n < 1) :
    Calls Try.prog 14 #[.int .u64 id, .int .i64 n] w fun r w' => r = .returned (.int .i64 0) ∧ w = w' := by
  go_enter Try.func14, Try.ntmps14
  go_wp2
  go_ret
  exact ⟨rfl, rfl⟩

theorem home_yes (id n : Int) (w : World) (h : 1 ≤ n) (h2 : n ≤ 9223372036854775807) :
    Calls Try.prog 14 #[.int .u64 id, .int .i64 n] w fun r w' => r = .returned (.int .i64 (homeZ id n)) ∧ w = w' := by
  have hr := u64_range (id * 11400714819323198485)
  go_enter Try.func14, Try.ntmps14
  go_wp2
  go_ret
  refine ⟨ret_int ?_, rfl⟩
  rw [homeZ, if_neg (by omega)]
  have h3 := Int.emod_lt_of_pos (IntKind.u64.wrap (id * 11400714819323198485) / 4294967296) (show 0 < n by omega)
  have h4 := Int.emod_nonneg (IntKind.u64.wrap (id * 11400714819323198485) / 4294967296) (show n ≠ 0 by omega)
  exact IntWalk.wrap64_in _ (by omega)

theorem refHome_no (id n : Int) (w : World) (h : n < 1) :
    Calls Try.prog 21 #[.int .u64 id, .int .i64 n] w fun r w' => r = .returned (.int .i64 0) ∧ w = w' := by
  go_enter Try.func21, Try.ntmps21
  go_wp2
  go_ret
  exact ⟨rfl, rfl⟩

theorem refHome_yes (id n : Int) (w : World) (h : 1 ≤ n) (h2 : n ≤ 9223372036854775807) :
    Calls Try.prog 21 #[.int .u64 id, .int .i64 n] w fun r w' => r = .returned (.int .i64 (homeZ id n)) ∧ w = w' := by
  have hr := u64_range (id * 11400714819323198485)
  go_enter Try.func21, Try.ntmps21
  go_wp2_with (go_at_call 28; refine (mul64 _ _ _).mono ?_; rintro e w' ⟨rfl, rfl⟩)
  go_ret
  refine ⟨ret_int ?_, rfl⟩
  rw [homeZ, if_neg (by omega)]
  have h3 := Int.emod_lt_of_pos (IntKind.u64.wrap (id * 11400714819323198485) / 4294967296) (show 0 < n by omega)
  have h4 := Int.emod_nonneg (IntKind.u64.wrap (id * 11400714819323198485) / 4294967296) (show n ≠ 0 by omega)
  exact IntWalk.wrap64_in _ (by omega)

end Go.Proofs.Ytidaecdlpjfngaa
