/-
  best, the plain law: a good list stays good.
-/
import Derived.Test.YtfjhipaoljnfaaaBestJ
namespace Go.Proofs.Ytfjhipaoljnfaaa
open Go.RowKit

theorem near_of_take {l : List Hz} {h x : Hz} (hx : x ∈ l.take (rankZ l h)) : near x h = true := by
  obtain ⟨i, hi, rfl⟩ := List.mem_iff_getElem.1 hx
  rw [List.length_take] at hi
  rw [List.getElem_take]
  exact rankZ_below _ (by omega)

theorem not_near_of_drop {l : List Hz} (hs : Sorted l) {h x : Hz} (hx : x ∈ l.drop (rankZ l h)) : near x h = false := by
  obtain ⟨i, hi, rfl⟩ := List.mem_iff_getElem.1 hx
  rw [List.getElem_drop]
  exact rankZ_above hs _ (by omega)

theorem insZ_perm (l : List Hz) (h : Hz) : (insZ l h).Perm (h :: l) := by
  unfold insZ
  refine List.perm_middle.trans ?_
  rw [List.take_append_drop]

theorem insZ_length (l : List Hz) (h : Hz) : (insZ l h).length = l.length + 1 := by
  have := (insZ_perm l h).length_eq
  simpa using this

theorem insZ_mem {l : List Hz} {h x : Hz} : x ∈ insZ l h ↔ x = h ∨ x ∈ l := by
  rw [(insZ_perm l h).mem_iff]; simp

theorem insZ_sorted {l : List Hz} (hs : Sorted l) {h : Hz} (hi : ∀ x ∈ l, x.id ≠ h.id) : Sorted (insZ l h) := by
  unfold insZ
  have hl : Sorted (l.take (rankZ l h) ++ l.drop (rankZ l h)) := by rw [List.take_append_drop]; exact hs
  obtain ⟨h1, h2, h3⟩ := List.pairwise_append.1 hl
  refine List.pairwise_append.2 ⟨h1, List.pairwise_cons.2 ⟨fun y hy => ?_, h2⟩, fun a ha b hb => ?_⟩
  · rcases near_total (hi y (List.mem_of_mem_drop hy)) with h4 | h4
    · rw [not_near_of_drop hs hy] at h4; cases h4
    · exact h4
  · rcases List.mem_cons.1 hb with rfl | hb
    · exact near_of_take ha
    · exact h3 a ha b hb

/-- each ID once -/
def Ids (l : List Hz) : Prop := l.Pairwise fun a b => a.id ≠ b.id

theorem Ids.perm {l m : List Hz} (h : Ids l) (p : l.Perm m) : Ids m := (p.pairwise_iff (fun {a b} hab => Ne.symm hab)).1 h

theorem insZ_ids {l : List Hz} (hd : Ids l) {h : Hz} (hi : ∀ x ∈ l, x.id ≠ h.id) : Ids (insZ l h) :=
  Ids.perm (List.pairwise_cons.2 ⟨fun a ha => (hi a ha).symm, hd⟩) (insZ_perm l h).symm

/-- what a list is at any time -/
structure GoodL (most : Nat) (l : List Hz) : Prop where
  sorted : Sorted l
  ids : Ids l
  len : l.length ≤ most
  vecs : ∀ x ∈ l, x.vec.length ≤ 1000000

theorem GoodL.nil (most : Nat) : GoodL most [] := ⟨List.Pairwise.nil, List.Pairwise.nil, Nat.zero_le _, fun x h => absurd h (by simp)⟩

theorem GoodL.ins {most : Nat} {l : List Hz} (g : GoodL most l) (hl : l.length < most) {h : Hz} (hi : ∀ x ∈ l, x.id ≠ h.id) (hx : h.vec.length ≤ 1000000) : GoodL most (insZ l h) :=
  ⟨insZ_sorted g.sorted hi, insZ_ids g.ids hi, by rw [insZ_length]; omega, fun x hm => by rcases insZ_mem.1 hm with rfl | hm; exact hx; exact g.vecs x hm⟩

theorem GoodL.sub {most : Nat} {l m : List Hz} (g : GoodL most l) (h : m.Sublist l) : GoodL most m :=
  ⟨g.sorted.sublist h, g.ids.sublist h, Nat.le_trans h.length_le g.len, fun x hm => g.vecs x (h.mem hm)⟩

theorem posZ_out {i : Int} {l : List Hz} (h : posZ i l = -1) : ∀ x ∈ l, x.id ≠ i := by
  cases hf : l.findIdx? (fun x => decide (x.id = i)) with
  | some k => simp [posZ, hf] at h
  | none =>
    intro x hx
    have := List.findIdx?_eq_none_iff.1 hf x hx
    simpa using this

theorem erase_ids {l : List Hz} (hd : Ids l) {k : Nat} (hk : k < l.length) : ∀ x ∈ l.eraseIdx k, x.id ≠ l[k].id := by
  intro x hx
  obtain ⟨j, hj, hjk, rfl⟩ := List.mem_eraseIdx_iff_getElem.1 hx
  rcases Nat.lt_or_ge j k with h | h
  · exact List.pairwise_iff_getElem.1 hd j k _ _ h
  · exact (List.pairwise_iff_getElem.1 hd k j _ _ (by omega)).symm

theorem posZ_in {i : Int} {l : List Hz} {k : Nat} (hk : k < l.length) (h : posZ i l = k) : l[k].id = i := by
  cases hf : l.findIdx? (fun x => decide (x.id = i)) with
  | some j =>
    simp [posZ, hf] at h
    obtain rfl : j = k := by omega
    have := (List.findIdx?_eq_some_iff_getElem.1 hf).2.1
    simpa using this
  | none => simp [posZ, hf] at h

theorem addZ_good {most : Nat} (hm : 1 ≤ most) {l : List Hz} (g : GoodL most l) {h : Hz} (hx : h.vec.length ≤ 1000000) : GoodL most (addZ most l h).2 := by
  rcases add_cases most l h hm g.len with ⟨k, hk, hp, ⟨-, ha⟩ | ⟨-, ha⟩⟩ | ⟨hp, ⟨hne, ha⟩ | ⟨heq, hk, ⟨-, ha⟩ | ⟨-, ha⟩⟩⟩
  · rw [ha]; exact g
  · rw [ha]
    have hg := g.len
    refine (g.sub (List.eraseIdx_sublist _ _)).ins (by rw [List.length_eraseIdx_of_lt hk]; omega) (fun x hm => ?_) hx
    rw [← posZ_in hk hp]
    exact erase_ids g.ids hk x hm
  · rw [ha]
    have hg := g.len
    exact g.ins (by omega) (posZ_out hp) hx
  · rw [ha]; exact g
  · rw [ha]
    exact (g.sub (List.take_sublist _ _)).ins (by rw [List.length_take]; omega) (fun x hm => posZ_out hp x (List.mem_of_mem_take hm)) hx

/-- many are added -/
def addsZ (most : Nat) (l ms : List Hz) : Nat × List Hz := ms.foldl (fun p h => ((if (addZ most p.2 h).1 then p.1 + 1 else p.1), (addZ most p.2 h).2)) (0, l)

theorem addsZ_snoc (most : Nat) (l ms : List Hz) (h : Hz) : addsZ most l (ms ++ [h]) = ((if (addZ most (addsZ most l ms).2 h).1 then (addsZ most l ms).1 + 1 else (addsZ most l ms).1), (addZ most (addsZ most l ms).2 h).2) := by
  unfold addsZ; rw [List.foldl_append]; rfl

theorem addsZ_nil (most : Nat) (l : List Hz) : addsZ most l [] = (0, l) := rfl

theorem addsZ_good {most : Nat} (hm : 1 ≤ most) {l : List Hz} (g : GoodL most l) (ms : List Hz) (hx : ∀ h ∈ ms, h.vec.length ≤ 1000000) : GoodL most (addsZ most l ms).2 := by
  unfold addsZ
  generalize (0 : Nat) = n
  induction ms generalizing n l with
  | nil => exact g
  | cons h ms ih =>
    rw [List.foldl_cons]
    exact ih (addZ_good hm g (hx h (by simp))) (fun x hx' => hx x (by simp [hx'])) _

theorem addsZ_le (most : Nat) (l ms : List Hz) : (addsZ most l ms).1 ≤ ms.length := by
  have : ∀ (n : Nat) (l : List Hz), (ms.foldl (fun p h => ((if (addZ most p.2 h).1 then p.1 + 1 else p.1), (addZ most p.2 h).2)) (n, l)).1 ≤ n + ms.length := by
    induction ms with
    | nil => intro n l; simp
    | cons h ms ih =>
      intro n l
      rw [List.foldl_cons, List.length_cons]
      refine Nat.le_trans (ih _ _) ?_
      split <;> omega
  have := this 0 l
  unfold addsZ
  omega

end Go.Proofs.Ytfjhipaoljnfaaa
