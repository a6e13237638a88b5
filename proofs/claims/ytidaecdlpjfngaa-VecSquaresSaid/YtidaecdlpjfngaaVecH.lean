import Derived.Test.YtidaecdlpjfngaaVecG
namespace Go.Proofs.Ytidaecdlpjfngaa
open Go.RowKit

theorem distZ_comm : ∀ xs ys : List Int, distZ xs ys = distZ ys xs
  | [], [] => rfl
  | [], _ :: _ => rfl
  | _ :: _, [] => rfl
  | x :: xs, y :: ys => by
    simp only [distZ]
    rw [distZ_comm xs ys]
    have : (x - y) * (x - y) = (y - x) * (y - x) := by rw [← Int.neg_mul_neg]; congr 1 <;> omega
    rw [this]

theorem distR_comm (xs ys : List Int) : distR xs ys = distR ys xs := by
  unfold distR
  rw [distZ_comm xs ys]
  by_cases h : rightB xs = true ∧ rightB ys = true ∧ xs.length = ys.length
  · rw [if_pos h, if_pos ⟨h.2.1, h.1, h.2.2.symm⟩]
  · rw [if_neg h, if_neg fun g => h ⟨g.2.1, g.1, g.2.2.symm⟩]

theorem distZ_nonneg : ∀ xs ys : List Int, 0 ≤ distZ xs ys
  | [], _ => by simp [distZ]
  | _ :: _, [] => by simp [distZ]
  | x :: xs, y :: ys => by
    simp only [distZ]
    have := distZ_nonneg xs ys
    have := sq_nonneg (x - y)
    omega

theorem sq_zero {x : Int} (h : x * x = 0) : x = 0 := by
  rcases Int.mul_eq_zero.1 h with h | h <;> exact h

theorem distZ_zero : ∀ xs ys : List Int, xs.length = ys.length → (distZ xs ys = 0 ↔ xs = ys)
  | [], [], _ => by simp [distZ]
  | [], _ :: _, h => by simp at h
  | _ :: _, [], h => by simp at h
  | x :: xs, y :: ys, h => by
    have h' : xs.length = ys.length := by simpa using h
    have h1 := distZ_nonneg xs ys
    have h2 := sq_nonneg (x - y)
    simp only [distZ, List.cons.injEq]
    constructor
    · intro e
      have e1 : (x - y) * (x - y) = 0 := by omega
      have e2 : distZ xs ys = 0 := by omega
      exact ⟨by have := sq_zero e1; omega, (distZ_zero xs ys h').1 e2⟩
    · rintro ⟨rfl, rfl⟩
      rw [(distZ_zero xs xs rfl).2 rfl]; simp

theorem dists_last {xs ys : List Int} (h : (distR xs ys).2 = 0) : ((distR xs ys).1 == 0) = decide (xs = ys) := by
  unfold distR at *
  split at h
  · rename_i hc
    rw [if_pos hc]
    rw [Bool.eq_iff_iff]
    simp [distZ_zero xs ys hc.2.2]
  · simp at h

theorem distR_err (xs ys : List Int) : (distR xs ys).2 = 0 ∨ (distR xs ys).2 = 4 := by
  unfold distR; split <;> simp

theorem vecDists (xs ys : List Int) (v u : Value) (w : World) (h : Nums w .i32 v xs) (g : Nums w .i32 u ys) :
    Calls Try.prog 7 #[v, u] w fun e w' => e = .returned (.bool true) ∧ Below w.heap.size w w' := by
  have H := Lib.hid h
  have G := Lib.hid g
  clear h g
  go_enter Try.func7, Try.ntmps7
  go_wp2_with fail
  refine (awake_true _).mono ?_
  rintro e w1 ⟨rfl, hb1⟩
  have B1 := Lib.hid hb1
  clear hb1
  go_wp2_with fail
  refine (cutVec xs _ 10 w1 (H.out.below B1.out) (by decide) (.inr (by decide))).mono ?_
  intro e w2 hN
  obtain ⟨a, rfl, hA, hb2⟩ := hN.nums
  have G2 := Lib.hid ((G.out.below B1.out).below hb2)
  have A := Lib.hid hA
  have B2 := Lib.hid (B1.out.trans (hb2.mono B1.out.size))
  clear hN hA hb2
  go_wp2_with fail
  refine (cutVec ys _ 10 w2 G2.out (by decide) (.inr (by decide))).mono ?_
  intro e w3 hN
  obtain ⟨b, rfl, hB, hb3⟩ := hN.nums
  have B := Lib.hid hB
  have A2 := Lib.hid (A.out.below hb3)
  have B3 := Lib.hid (B2.out.trans (hb3.mono B2.out.size))
  clear hN hB hb3
  generalize xs.take (10 : Int).toNat = xs' at *
  generalize ys.take (10 : Int).toNat = ys' at *
  go_wp2_with fail
  refine (dist xs' ys' _ _ w3 A2.out B.out).mono ?_
  rintro e w' ⟨rfl, rfl⟩
  go_wp2_with fail
  refine (refDist xs' ys' _ _ w3 A2.out B.out).mono ?_
  rintro e w4 ⟨rfl, hb4⟩
  have A4 := Lib.hid (A2.out.below hb4)
  have C4 := Lib.hid (B.out.below hb4)
  have B4 := Lib.hid (B3.out.trans (hb4.mono B3.out.size))
  clear hb4
  have hd := dist ys' xs' _ _ w4 C4.out A4.out
  rw [distR_comm ys' xs'] at hd
  go_wp2_with fail
  refine hd.mono ?_
  rintro e w' ⟨rfl, rfl⟩
  clear hd
  have hne : ((distR xs' ys').2 != 0) = true ∨ ((distR xs' ys').2 != 0) = false := by cases (distR xs' ys').2 != 0 <;> simp
  rcases hne with hne | hne
  · go_wp2_with (first | (go_at_call 15; refine (right xs' _ w4 A4.out).mono ?_; rintro e w' ⟨rfl, rfl⟩) | (go_at_call 19; refine (refRight xs' _ w4 A4.out).mono ?_; rintro e w' ⟨rfl, rfl⟩))
    go_ret
    exact ⟨rfl, B4.out⟩
  · have hl := dists_last (xs := xs') (ys := ys') (by simpa using hne)
    have L := Lib.hid hl
    clear hl
    go_wp2_with (first | (go_at_call 15; refine (right xs' _ w4 A4.out).mono ?_; rintro e w' ⟨rfl, rfl⟩) | (go_at_call 19; refine (refRight xs' _ w4 A4.out).mono ?_; rintro e w' ⟨rfl, rfl⟩))
    refine (sameVec xs' ys' _ _ w4 A4.out C4.out).mono ?_
    rintro e w5 ⟨rfl, hb5⟩
    have B5 := Lib.hid (B4.out.trans (hb5.mono B4.out.size))
    clear hb5
    rw [L.out]
    go_wp2_with fail
    go_ret
    exact ⟨ret_bool (by simp), B5.out⟩

end Go.Proofs.Ytidaecdlpjfngaa
