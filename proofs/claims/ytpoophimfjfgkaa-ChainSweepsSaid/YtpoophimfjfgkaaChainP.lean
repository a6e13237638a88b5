/-
  chain: plain laws of what is put, told and swept.
-/
import Derived.Test.YtpoophimfjfgkaaChainJ
import Derived.Test.YtpoophimfjfgkaaChainF
namespace Go.Proofs.Ytpoophimfjfgkaa
open Go.RowKit

/-- the stamps rise, from 1 on; no vector is long -/
structure Good (l : List (Int × List Int)) : Prop where
  rising : Rising l
  each : ∀ r ∈ l, 1 ≤ r.1 ∧ r.1 ≤ 1099511627776 ∧ r.2.length ≤ 8 ∧ (0 < r.2.length → rightB r.2 = true)

theorem Good.nil : Good [] := ⟨List.Pairwise.nil, by simp⟩

theorem lastZ_max {l : List (Int × List Int)} (h : Rising l) {s : Int} (hs : lastZ l < s) : ∀ r ∈ l, r.1 < s := by
  intro r hr
  obtain ⟨i, hi, rfl⟩ := List.mem_iff_getElem.1 hr
  refine Int.not_le.1 fun hle => ?_
  have hne : l ≠ [] := fun e => by simp [e] at hi
  have : s ≤ lastZ l := by
    unfold lastZ
    rw [List.getLast?_eq_some_getLast hne, List.getLast_eq_getElem]
    simp only
    by_cases e : i = l.length - 1
    · subst e; exact hle
    · have := rising_lt h hi (j := l.length - 1) (by omega) (by omega)
      omega
  omega

theorem putZ_good {l : List (Int × List Int)} (h : Good l) (s : Int) (xs : List Int) : Good (putZ l s xs).2 := by
  unfold putZ
  split
  · exact h
  · split
    · exact h
    · split
      · exact h
      · rename_i h1 h2 h3
        refine ⟨?_, fun r hr => ?_⟩
        · refine List.pairwise_append.2 ⟨h.rising, List.pairwise_singleton _ _, fun a ha b hb => ?_⟩
          simp only [List.mem_singleton] at hb
          subst hb
          exact lastZ_max h.rising (by simpa using h3) a ha
        · simp only [List.mem_append, List.mem_singleton] at hr
          rcases hr with hr | rfl
          · exact h.each r hr
          · have hr : 0 < xs.length → rightB xs = true := fun hx => by
              cases hr : rightB xs
              · exact absurd ⟨hx, hr⟩ h2
              · rfl
            refine ⟨by simp only; omega, by simp only; omega, ?_, hr⟩
            rcases Nat.eq_zero_or_pos xs.length with h0 | h0
            · simp only; omega
            · have := hr h0
              simp only [rightB, Bool.and_eq_true, decide_eq_true_eq] at this
              exact this.1.2

/-- they are put one by one, whatever is said -/
def fillZ (l : List (Int × List Int)) : List (Int × List Int) → List (Int × List Int)
  | [] => l
  | r :: m => fillZ (putZ l r.1 r.2).2 m

theorem fillZ_snoc (l m : List (Int × List Int)) (r : Int × List Int) : fillZ l (m ++ [r]) = (putZ (fillZ l m) r.1 r.2).2 := by
  induction m generalizing l with
  | nil => rfl
  | cons a m ih => exact ih _

theorem fillZ_good {l : List (Int × List Int)} (h : Good l) (m : List (Int × List Int)) : Good (fillZ l m) := by
  induction m generalizing l with
  | nil => exact h
  | cons a m ih => exact ih (putZ_good h _ _)

theorem fillZ_length (l m : List (Int × List Int)) : (fillZ l m).length ≤ l.length + m.length := by
  induction m generalizing l with
  | nil => simp [fillZ]
  | cons a m ih =>
    have := ih (l := (putZ l a.1 a.2).2)
    have h1 := putZ_length l a.1 a.2
    simp only [fillZ, List.length_cons]
    omega

theorem Good.lengths {l : List (Int × List Int)} (h : Good l) : ∀ r ∈ l, r.2.length ≤ 1000000 := fun r hr => by have := (h.each r hr).2.2.1; omega
theorem Good.pos {l : List (Int × List Int)} (h : Good l) : ∀ r ∈ l, 0 ≤ r.1 ∧ r.2.length ≤ 1000000 := fun r hr => by have := h.each r hr; exact ⟨by omega, by omega⟩

theorem Good.drop {l : List (Int × List Int)} (h : Good l) (n : Nat) : Good (l.drop n) :=
  ⟨h.rising.sublist (List.drop_sublist _ _), fun r hr => h.each r (List.mem_of_mem_drop hr)⟩

/-- what is right is put -/
theorem putsZ_good (l0 : List (Int × List Int)) : ∀ (m : List (Int × List Int)), Good (l0 ++ m) → putsZ l0 m = (0, l0 ++ m) := by
  intro m
  induction m generalizing l0 with
  | nil => intro _; simp [putsZ]
  | cons r m ih =>
    intro h
    have h1 : putZ l0 r.1 r.2 = (0, l0 ++ [(r.1, r.2)]) := by
      have hr := h.each r (by simp)
      have hp := List.pairwise_append.1 h.rising
      unfold putZ
      rw [if_neg (by omega), if_neg (by rintro ⟨a, b⟩; rw [hr.2.2.2 a] at b; cases b), if_neg]
      intro hle
      unfold lastZ at hle
      cases he : l0.getLast? with
      | none => rw [he] at hle; simp only at hle; omega
      | some a =>
        rw [he] at hle
        have := hp.2.2 a (List.mem_of_getLast? he) r (by simp)
        simp only at hle
        omega
    simp only [putsZ, h1, if_true]
    rw [ih (l0 ++ [(r.1, r.2)]) (by simpa using h)]
    simp

theorem atZ_drop {l : List (Int × List Int)} (h : Rising l) {mark s : Int} (hs : mark ≤ s) : atZ s (l.drop (goneN mark l)) = atZ s l := by
  rw [← ratZ_eq (h.sublist (List.drop_sublist _ _)), ← ratZ_eq h]
  have hle := goneN_le mark l
  have hc := cntZ_le mark l
  conv => rhs; rw [← List.take_append_drop (goneN mark l) l]
  unfold ratZ
  rw [List.filter_append]
  cases he : (List.filter (fun r => decide (r.1 ≤ s)) (l.drop (goneN mark l))).getLast? with
  | some r => rw [List.getLast?_append, he]; rfl
  | none =>
    rw [List.getLast?_append, he]
    simp only [Option.none_or]
    have hnil : List.filter (fun r => decide (r.1 ≤ s)) (l.drop (goneN mark l)) = [] := List.getLast?_eq_none_iff.1 he
    have hg : goneN mark l = cntZ mark l ∧ (0 < cntZ mark l → (atZ mark l).length = 0) := by
      unfold goneN at hnil ⊢
      split at hnil
      · rename_i h2
        exfalso
        have hm : l[cntZ mark l - 1]'(by omega) ∈ List.filter (fun r => decide (r.1 ≤ s)) (l.drop (cntZ mark l - 1)) := by
          rw [List.mem_filter]
          refine ⟨?_, ?_⟩
          · rw [List.mem_iff_getElem]
            exact ⟨0, by simp; omega, by simp⟩
          · have := cntZ_below (s := mark) (l := l) (j := cntZ mark l - 1) (by omega) (by omega)
            simp; omega
        rw [hnil] at hm
        cases hm
      · rename_i h2
        rw [if_neg h2]
        exact ⟨rfl, fun h0 => by omega⟩
    rw [hg.1]
    have hf : List.filter (fun r => decide (r.1 ≤ s)) (l.take (cntZ mark l)) = l.take (cntZ mark l) := by
      rw [List.filter_eq_self]
      intro r hr
      obtain ⟨i, hi, rfl⟩ := List.mem_iff_getElem.1 hr
      simp only [List.length_take] at hi
      rw [List.getElem_take]
      have := cntZ_below (s := mark) (l := l) (j := i) (by omega) (by omega)
      simp; omega
    rw [hf]
    by_cases h0 : cntZ mark l = 0
    · rw [h0]; rfl
    · have := hg.2 (by omega)
      unfold atZ at this
      cases h9 : (l.take (cntZ mark l)).getLast? with
      | none => rfl
      | some r =>
        rw [h9] at this
        exact (List.eq_nil_of_length_eq_zero this).symm

theorem cntZ_unique {l : List (Int × List Int)} {s : Int} {n : Nat} (hn : n ≤ l.length) (h1 : ∀ j (h : j < l.length), j < n → l[j].1 ≤ s) (h2 : ∀ j (h : j < l.length), n ≤ j → s < l[j].1) : cntZ s l = n := cntZ_eq s l n hn h1 h2

/-- what stays below the mark is one at most, and needed -/
theorem goneN_drop {l : List (Int × List Int)} (h : Rising l) (mark : Int) : goneN mark (l.drop (goneN mark l)) = 0 ∧ cntZ mark (l.drop (goneN mark l)) ≤ 1 := by
  have hc := cntZ_le mark l
  by_cases h2 : 0 < cntZ mark l ∧ 0 < (atZ mark l).length
  · have e : goneN mark l = cntZ mark l - 1 := by unfold goneN; rw [if_pos h2]
    have hcn : cntZ mark (l.drop (goneN mark l)) = 1 := by
      refine cntZ_unique (by simp; omega) (fun j hj h1 => ?_) (fun j hj h1 => ?_)
      · simp only [List.getElem_drop]
        exact cntZ_below (by omega) _
      · simp only [List.getElem_drop]
        exact cntZ_above h (by omega) _
    have ha := atZ_drop h (Int.le_refl mark)
    refine ⟨?_, by omega⟩
    unfold goneN at hcn ha ⊢
    rw [hcn, ha, if_pos ⟨by omega, h2.2⟩]
  · have e : goneN mark l = cntZ mark l := by unfold goneN; rw [if_neg h2]
    have hcn : cntZ mark (l.drop (goneN mark l)) = 0 := by
      refine cntZ_unique (by omega) (fun j hj h1 => absurd h1 (by omega)) (fun j hj h1 => ?_)
      simp only [List.getElem_drop]
      exact cntZ_above h (by omega) _
    refine ⟨?_, by omega⟩
    unfold goneN at hcn ⊢
    rw [hcn, if_neg (by omega)]

/-- the stamp of the last one at or below -/
def lastAt (s : Int) (l : List (Int × List Int)) : Int := match (l.filter fun r => decide (r.1 ≤ s)).getLast? with | some r => r.1 | none => 0

theorem lastAt_snoc (s : Int) (l : List (Int × List Int)) (r : Int × List Int) : lastAt s (l ++ [r]) = if r.1 ≤ s then r.1 else lastAt s l := by
  unfold lastAt
  rw [List.filter_append]
  by_cases h : r.1 ≤ s
  · simp [h]
  · simp [h]

theorem lastAt_steps {l : List (Int × List Int)} (h : Good l) (s : Int) : atZ (lastAt s l) l = atZ s l ∧ 0 ≤ lastAt s l ∧ (0 < lastAt s l ∨ atZ s l = []) := by
  have hle := cntZ_le s l
  by_cases h0 : cntZ s l = 0
  · have hf : l.filter (fun r => decide (r.1 ≤ s)) = [] := by
      rw [rising_filter h.rising, ← take_takeWhile, show (List.takeWhile (fun r => decide (r.1 ≤ s)) l).length = cntZ s l from rfl, h0]; rfl
    have e : lastAt s l = 0 := by unfold lastAt; rw [hf]; rfl
    have hz : cntZ 0 l = 0 := by
      refine cntZ_unique (by omega) (fun j hj h1 => absurd h1 (by omega)) fun j hj _ => ?_
      have := h.each _ (List.getElem_mem hj)
      omega
    rw [e, atZ_zero hz, atZ_zero h0]
    exact ⟨rfl, by omega, .inr rfl⟩
  · have hf : l.filter (fun r => decide (r.1 ≤ s)) = l.take (cntZ s l) := by
      rw [rising_filter h.rising, ← take_takeWhile]; rfl
    have e : lastAt s l = l[cntZ s l - 1].1 := by
      unfold lastAt
      rw [hf, List.getLast?_eq_getElem?, List.length_take, List.getElem?_take, show min (cntZ s l) l.length = cntZ s l by omega, if_pos (by omega), List.getElem?_eq_getElem (by omega)]
    have hg := h.each _ (List.getElem_mem (by omega : cntZ s l - 1 < l.length))
    have hz : cntZ (lastAt s l) l = cntZ s l := by
      rw [e]
      refine cntZ_unique hle (fun j hj h1 => ?_) fun j hj h1 => ?_
      · by_cases e : j = cntZ s l - 1
        · subst e; exact Int.le_refl _
        · have := rising_lt h.rising hj (j := cntZ s l - 1) (by omega) (by omega)
          omega
      · have := cntZ_above h.rising h1 hj
        have := cntZ_below (s := s) (l := l) (j := cntZ s l - 1) (by omega) (by omega)
        omega
    refine ⟨?_, by omega, .inl (by omega)⟩
    unfold atZ
    rw [hz]

end Go.Proofs.Ytpoophimfjfgkaa
