import Derived.Test.YtidaecdlpjfngaaVecG
namespace Go.Proofs.Ytidaecdlpjfngaa
open Go.RowKit

theorem home_range (id n : Int) (h : 1 ≤ n) : 0 ≤ homeZ id n ∧ homeZ id n < n := by
  rw [homeZ, if_neg (by omega)]
  exact ⟨Int.emod_nonneg _ (by omega), Int.emod_lt_of_pos _ (by omega)⟩

theorem vecHomes (id n : Int) (w : World) (h2 : n ≤ 9223372036854775807) :
    Calls Try.prog 8 #[.int .u64 id, .int .i64 n] w fun r w' => r = .returned (.bool true) ∧ Below w.heap.size w w' := by
  by_cases h : n < 1
  · go_enter Try.func8, Try.ntmps8
    go_wp2_with fail
    refine (awake_true _).mono ?_
    rintro r w1 ⟨rfl, hb1⟩
    have B1 := Lib.hid hb1
    clear hb1
    go_wp2_with (first | (go_at_call 14; refine (home_no id n _ h).mono ?_; rintro e w' ⟨rfl, rfl⟩) | (go_at_call 21; refine (refHome_no id n _ h).mono ?_; rintro e w' ⟨rfl, rfl⟩))
    go_ret
    exact ⟨rfl, B1.out⟩
  · have h1 : 1 ≤ n := by omega
    have hr := home_range id n h1
    go_enter Try.func8, Try.ntmps8
    go_wp2_with fail
    refine (awake_true _).mono ?_
    rintro r w1 ⟨rfl, hb1⟩
    have B1 := Lib.hid hb1
    clear hb1
    go_wp2_with (first | (go_at_call 14; refine (home_yes id n _ h1 h2).mono ?_; rintro e w' ⟨rfl, rfl⟩) | (go_at_call 21; refine (refHome_yes id n _ h1 h2).mono ?_; rintro e w' ⟨rfl, rfl⟩))
    go_ret
    exact ⟨rfl, B1.out⟩

end Go.Proofs.Ytidaecdlpjfngaa
