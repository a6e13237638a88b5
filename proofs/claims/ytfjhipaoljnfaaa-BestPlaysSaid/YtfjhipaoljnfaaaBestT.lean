/-
  best, the plain law: of hits with IDs of their own the nearest few are the first of all in order.
-/
import Derived.Test.YtfjhipaoljnfaaaBestR
namespace Go.Proofs.Ytfjhipaoljnfaaa
open Go.RowKit

/-- all, in order: no bound -/
def allZ (ms : List Hz) : List Hz := ms.foldl insZ []

theorem allZ_snoc (ms : List Hz) (h : Hz) : allZ (ms ++ [h]) = insZ (allZ ms) h := by unfold allZ; rw [List.foldl_append]; rfl

theorem rankZ_take {l : List Hz} {h : Hz} {j : Nat} (hr : rankZ l h ≤ j) : rankZ (l.take j) h = rankZ l h := by
  unfold rankZ at *
  induction l generalizing j with
  | nil => simp
  | cons a l ih =>
    simp only [List.takeWhile_cons] at hr ⊢
    cases ha : near a h
    · rw [ha] at hr
      cases j with
      | zero => simp
      | succ j => simp [List.takeWhile_cons, ha]
    · rw [ha] at hr
      simp only [if_true, List.length_cons] at hr
      cases j with
      | zero => omega
      | succ j =>
        simp only [List.take_succ_cons, List.takeWhile_cons, ha, if_true, List.length_cons]
        rw [ih (by omega)]

theorem addZ_new {n : Nat} {l : List Hz} {h : Hz} (hi : ∀ x ∈ l, x.id ≠ h.id) : addZ n l h = if l.length = n then (if near h (l.getD (n - 1) h) = true then (true, insZ (l.take (n - 1)) h) else (false, l)) else (true, insZ l h) := by
  unfold addZ
  rw [find_none fun j hj => hi _ (List.getElem_mem hj)]

theorem cut_add {n : Nat} (hn : 1 ≤ n) {L : List Hz} (hs : Sorted L) {h : Hz} (hi : ∀ x ∈ L, x.id ≠ h.id) : (addZ n (L.take n) h).2 = (insZ L h).take n := by
  rw [addZ_new fun x hx => hi x (List.mem_of_mem_take hx)]
  rcases Nat.lt_or_ge L.length n with hl | hl
  · rw [List.take_of_length_le (by omega), if_neg (by omega)]
    simp only
    rw [List.take_of_length_le (by rw [insZ_length]; omega)]
  · have hlen : (L.take n).length = n := by rw [List.length_take]; omega
    have hk : n - 1 < L.length := by omega
    have hd : (L.take n).getD (n - 1) h = L[n - 1] := by simp [List.getD, List.getElem?_take, show n - 1 < n by omega, List.getElem?_eq_getElem hk]
    rw [if_pos hlen, hd]
    cases hnr : near h L[n - 1]
    · rw [if_neg (by simp)]
      simp only
      have hr : n ≤ rankZ L h := by
        rcases Nat.lt_or_ge (rankZ L h) n with h1 | h1
        · have h2 := rankZ_above hs hk (h := h) (by omega)
          rcases near_total (hi _ (List.getElem_mem hk)) with h3 | h3
          · rw [h2] at h3; cases h3
          · rw [hnr] at h3; cases h3
        · exact h1
      have hle := rankZ_le L h
      unfold insZ
      rw [List.take_append_of_le_length (by rw [List.length_take]; omega), List.take_take, Nat.min_eq_left hr]
    · rw [if_pos rfl]
      simp only
      have hr : rankZ L h ≤ n - 1 := by
        rcases Nat.lt_or_ge (n - 1) (rankZ L h) with h1 | h1
        · have h2 := rankZ_below hk (h := h) h1
          rw [near_asymm h2] at hnr; cases hnr
        · exact h1
      have hle := rankZ_le L h
      rw [show (L.take n).take (n - 1) = L.take (n - 1) from by rw [List.take_take, Nat.min_eq_left (by omega)]]
      unfold insZ
      rw [rankZ_take hr, List.take_take, Nat.min_eq_left hr, List.take_append, List.take_of_length_le (l := L.take (rankZ L h)) (by rw [List.length_take]; omega), List.length_take, Nat.min_eq_left hle]
      congr 1
      obtain ⟨j, hj⟩ : ∃ j, n - rankZ L h = j + 1 := ⟨n - rankZ L h - 1, by omega⟩
      rw [hj, List.take_succ_cons, List.drop_take]
      congr 2
      omega

theorem allZ_perm (ms : List Hz) : (allZ ms).Perm ms := by
  have : ∀ l : List Hz, (ms.foldl insZ l).Perm (ms ++ l) := by
    induction ms with
    | nil => exact fun l => List.Perm.refl _
    | cons h ms ih =>
      intro l
      rw [List.foldl_cons]
      refine (ih _).trans ?_
      refine ((insZ_perm l h).append_left ms).trans ?_
      exact List.perm_middle
  simpa [allZ] using this []

theorem addsZ_all {n : Nat} (hn : 1 ≤ n) (ms : List Hz) (hd : Ids ms) : (addsZ n [] ms).2 = (allZ ms).take n ∧ Sorted (allZ ms) := by
  have : ∀ k, k ≤ ms.length → (addsZ n [] (ms.take k)).2 = (allZ (ms.take k)).take n ∧ Sorted (allZ (ms.take k)) := by
    intro k
    induction k with
    | zero => intro _; exact ⟨by simp [addsZ_nil, allZ], List.Pairwise.nil⟩
    | succ k ih =>
      intro hk
      obtain ⟨h1, h2⟩ := ih (by omega)
      have hk' : k < ms.length := by omega
      have hi : ∀ x ∈ allZ (ms.take k), x.id ≠ ms[k].id := by
        intro x hx
        have hx' := (allZ_perm (ms.take k)).mem_iff.1 hx
        obtain ⟨j, hj, rfl⟩ := List.mem_iff_getElem.1 hx'
        rw [List.length_take] at hj
        rw [List.getElem_take]
        exact List.pairwise_iff_getElem.1 hd j k _ _ (by omega)
      rw [take_snoc ms k hk', addsZ_snoc, allZ_snoc]
      refine ⟨?_, insZ_sorted h2 hi⟩
      simp only
      rw [h1]
      exact cut_add hn h2 hi
  have := this ms.length (Nat.le_refl _)
  rwa [List.take_length] at this

end Go.Proofs.Ytfjhipaoljnfaaa
