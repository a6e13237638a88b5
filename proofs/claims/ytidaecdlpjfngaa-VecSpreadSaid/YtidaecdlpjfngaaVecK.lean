/- The plain law of VecSpread: of numbers that follow one another not all have one shard. -/
import Derived.Test.YtidaecdlpjfngaaVecE
namespace Go.Proofs.Ytidaecdlpjfngaa

/-- what an ID comes to, in 64 bits; its upper and its lower half -/
def allZ (x : Int) : Int := x * 11400714819323198485 % 18446744073709551616

theorem homeZ_top (x n : Int) (h : 1 ≤ n) : homeZ x n = allZ x / 4294967296 % n := by
  rw [homeZ, if_neg (by omega), allZ]
  congr 2


theorem allZ_in (x : Int) : 0 ≤ allZ x ∧ allZ x < 18446744073709551616 := by
  unfold allZ; omega

/-- one further: the lower half's carry, and the whole's -/
theorem all_step (x : Int) : ∃ c w : Int, (c = 0 ∨ c = 1) ∧ (w = 0 ∨ w = 1) ∧ allZ (x + 1) = allZ x + 11400714819323198485 - 18446744073709551616 * w ∧
    allZ (x + 1) % 4294967296 = allZ x % 4294967296 + 2135587861 - 4294967296 * c ∧ allZ (x + 1) / 4294967296 = allZ x / 4294967296 + 2654435769 + c - 4294967296 * w := by
  have e : (x + 1) * 11400714819323198485 = x * 11400714819323198485 + 11400714819323198485 := by omega
  unfold allZ
  rw [e]
  generalize x * 11400714819323198485 = y
  have h1 : (y + 11400714819323198485) % 18446744073709551616 = y % 18446744073709551616 + 11400714819323198485 ∨ (y + 11400714819323198485) % 18446744073709551616 = y % 18446744073709551616 + 11400714819323198485 - 18446744073709551616 := by omega
  have h0 : 0 ≤ y % 18446744073709551616 ∧ y % 18446744073709551616 < 18446744073709551616 := by omega
  generalize y % 18446744073709551616 = z at *
  have h2 : (z + 11400714819323198485) % 4294967296 = z % 4294967296 + 2135587861 ∨ (z + 11400714819323198485) % 4294967296 = z % 4294967296 + 2135587861 - 4294967296 := by omega
  rcases h1 with h1 | h1
  · rw [h1]
    rcases h2 with h2 | h2
    · exact ⟨0, 0, by omega, by omega, by omega, by omega, by omega⟩
    · exact ⟨1, 0, by omega, by omega, by omega, by omega, by omega⟩
  · rw [h1]
    rcases h2 with h2 | h2
    · exact ⟨0, 1, by omega, by omega, by omega, by omega, by omega⟩
    · exact ⟨1, 1, by omega, by omega, by omega, by omega, by omega⟩

theorem spread_even (x n : Int) (hn : n = 2 ∨ n = 4) (h1 : allZ (x + 1) / 4294967296 % n = allZ x / 4294967296 % n) (h2 : allZ (x + 1 + 1) / 4294967296 % n = allZ (x + 1) / 4294967296 % n) : False := by
  obtain ⟨c, w, hc, hw, -, b1, b2⟩ := all_step x
  obtain ⟨d, u, hd, hu, -, b3, b4⟩ := all_step (x + 1)
  have l0 : 0 ≤ allZ x % 4294967296 ∧ allZ x % 4294967296 < 4294967296 := by omega
  have l2 : 0 ≤ allZ (x + 1 + 1) % 4294967296 := by omega
  generalize allZ (x + 1 + 1) % 4294967296 = m2 at *
  generalize allZ (x + 1) % 4294967296 = m1 at *
  generalize allZ x % 4294967296 = m0 at *
  generalize allZ (x + 1 + 1) / 4294967296 = t2 at *
  generalize allZ (x + 1) / 4294967296 = t1 at *
  generalize allZ x / 4294967296 = t0 at *
  have c1 : c = 1 := by rcases hn with rfl | rfl <;> omega
  have d1 : d = 1 := by rcases hn with rfl | rfl <;> omega
  omega

theorem spread_three (x : Int) (k : Nat) (h : ∀ j : Nat, j ≤ k → allZ (x + j) / 4294967296 % 3 = allZ x / 4294967296 % 3) :
    ∃ s : Int, allZ (x + k) = allZ x + 11400714819323198485 * k - 18446744073709551616 * s ∧ allZ (x + k) % 4294967296 = allZ x % 4294967296 + 2135587861 * k - 4294967296 * s := by
  induction k with
  | zero => exact ⟨0, by simp, by simp⟩
  | succ k ih =>
    obtain ⟨s, h1, h2⟩ := ih fun j hj => h j (by omega)
    obtain ⟨c, w, hc, hw, a1, b1, b2⟩ := all_step (x + k)
    have e : x + ((k + 1 : Nat) : Int) = x + k + 1 := by omega
    have g1 := h (k + 1) (by omega)
    have g0 := h k (by omega)
    rw [e] at g1 ⊢
    have hcw : c = w := by
      generalize allZ (x + k + 1) / 4294967296 = t1 at *
      generalize allZ (x + k) / 4294967296 = t0 at *
      omega
    subst hcw
    exact ⟨s + c, by omega, by omega⟩

/-- of 21 that follow one another not all have the first one's shard -/
theorem spread (x n : Int) (hn : n = 2 ∨ n = 3 ∨ n = 4) : ∃ j : Nat, j ≤ 20 ∧ homeZ (x + j) n ≠ homeZ x n := by
  refine Classical.byContradiction fun hno => ?_
  have hall : ∀ j : Nat, j ≤ 20 → allZ (x + j) / 4294967296 % n = allZ x / 4294967296 % n := by
    intro j hj
    refine Classical.byContradiction fun hne => hno ⟨j, hj, ?_⟩
    rw [homeZ_top _ _ (by omega), homeZ_top _ _ (by omega)]
    exact hne
  by_cases h3 : n = 3
  · subst h3
    obtain ⟨s, h1, h2⟩ := spread_three x 20 hall
    have := allZ_in x
    have := allZ_in (x + (20 : Nat))
    omega
  · have e : x + 1 + 1 = x + (2 : Nat) := by omega
    refine spread_even x n (by omega) (by simpa using hall 1 (by omega)) ?_
    rw [e]
    have h1 := hall 1 (by omega)
    have h2 := hall 2 (by omega)
    simp only [Int.natCast_one] at h1
    rw [h1, h2]

end Go.Proofs.Ytidaecdlpjfngaa
