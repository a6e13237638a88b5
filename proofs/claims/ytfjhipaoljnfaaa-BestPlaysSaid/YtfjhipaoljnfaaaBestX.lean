/-
  The document's Sort: hits in order.
-/
import Derived.Test.YtfjhipaoljnfaaaBestW
namespace Go.Proofs.Ytfjhipaoljnfaaa
open Go.RowKit

/-- how many are nearer -/
def aheadZ (l : List Hz) (h : Hz) : Nat := l.countP fun x => near x h

theorem ahead_at {m : List Hz} (hs : Sorted m) {i : Nat} (hi : i < m.length) : aheadZ m m[i] = i := by
  unfold aheadZ
  have e : m = m.take i ++ m.drop i := (List.take_append_drop i m).symm
  have h1 : (m.take i).countP (fun x => near x m[i]) = i := by
    rw [List.countP_eq_length.2 fun x hx => ?_, List.length_take]
    · omega
    · obtain ⟨j, hj, rfl⟩ := List.mem_iff_getElem.1 hx
      rw [List.length_take] at hj
      rw [List.getElem_take]
      exact List.pairwise_iff_getElem.1 hs j i _ hi (by omega)
  have h2 : (m.drop i).countP (fun x => near x m[i]) = 0 := by
    rw [List.countP_eq_zero]
    intro x hx
    obtain ⟨j, hj, rfl⟩ := List.mem_iff_getElem.1 hx
    rw [List.getElem_drop]
    rw [List.length_drop] at hj
    by_cases e : i = i + j
    · have e0 : j = 0 := by omega
      subst e0
      simp [near_irrefl]
    · have := List.pairwise_iff_getElem.1 hs i (i + j) hi (by omega) (by omega)
      simp [near_asymm this]
  calc m.countP (fun x => near x m[i]) = (m.take i ++ m.drop i).countP (fun x => near x m[i]) := by rw [← e]
    _ = i := by rw [List.countP_append, h1, h2]; rfl

theorem ahead_perm {l m : List Hz} (hp : m.Perm l) (h : Hz) : aheadZ l h = aheadZ m h := (hp.countP_eq _).symm

theorem ahead_of {l m : List Hz} (hs : Sorted m) (hp : m.Perm l) {j : Nat} (hj : j < l.length) : ∃ h : aheadZ l l[j] < m.length, m[aheadZ l l[j]] = l[j] := by
  obtain ⟨i, hi, e⟩ := List.mem_iff_getElem.1 (hp.mem_iff.2 (List.getElem_mem hj))
  have : aheadZ l l[j] = i := by rw [← e, ahead_perm hp, ahead_at hs hi]
  simp only [this]
  exact ⟨hi, e⟩

/-- what the document counts, up to k -/
theorem ahead_step {l : List Hz} (hd : Ids l) {i k : Nat} (hi : i < l.length) (hk : k < l.length) : ((l.take (k + 1)).countP fun x => near x l[i]) = ((l.take k).countP fun x => near x l[i]) + (if near l[k] l[i] = true then 1 else 0) := by
  rw [take_snoc l k hk, List.countP_append, List.countP_singleton]

theorem setAt_flat3 (rs : List Hv) (i : Nat) (hi : i < rs.length) (r : Hv) : setAt (flat3 rs) (i * 3) [.int .u64 r.id, .int .u64 r.dist, r.vec] = flat3 (rs.set i r) := by
  simp only [setAt]
  induction rs generalizing i with
  | nil => simp at hi
  | cons a rs ih =>
    cases i with
    | zero => simp [flat3]
    | succ i =>
      have := ih i (by simpa using hi)
      rw [show (i + 1) * 3 = i * 3 + 1 + 1 + 1 by omega]
      simpa [flat3] using this

theorem made_flat3 (n : Nat) : (madeCells (.agg #[.int .u64 0, .int .u64 0, .slice none 0 0] : Value).cells (n * 3)).toList = flat3 (List.replicate n ⟨0, 0, .slice none 0 0⟩) := by
  apply List.ext_getElem
  · simp [madeCells, flat3_length]
  · intro i h1 h2
    rw [flat3_length, List.length_replicate] at h2
    have hf := flat3_get (List.replicate n (⟨0, 0, .slice none 0 0⟩ : Hv)) (i / 3) (by simp; omega)
    simp only [List.getElem_replicate] at hf
    have hm : i % 3 = 0 ∨ i % 3 = 1 ∨ i % 3 = 2 := by omega
    have hc : ((.agg #[.int .u64 0, .int .u64 0, .slice none 0 0] : Value).cells).size = 3 := rfl
    have h2' : i < (flat3 (List.replicate n (⟨0, 0, .slice none 0 0⟩ : Hv))).length := by rw [flat3_length, List.length_replicate]; omega
    have hg : (flat3 (List.replicate n (⟨0, 0, .slice none 0 0⟩ : Hv)))[i]? = some (flat3 (List.replicate n (⟨0, 0, .slice none 0 0⟩ : Hv)))[i] := List.getElem?_eq_getElem h2'
    simp only [madeCells, Array.getElem_toList, Array.getElem_map, Array.getElem_range, hc]
    rcases hm with hm | hm | hm
    · have e : i / 3 * 3 = i := by omega
      rw [e, hg] at hf
      rw [Option.some.inj hf.1, hm]; rfl
    · have e : i / 3 * 3 + 1 = i := by omega
      rw [e, hg] at hf
      rw [Option.some.inj hf.2.1, hm]; rfl
    · have e : i / 3 * 3 + 1 + 1 = i := by omega
      rw [e, hg] at hf
      rw [Option.some.inj hf.2.2, hm]; rfl

/-- what was put so far stands where it belongs -/
def PutS (l : List Hz) (rl rs : List Hv) (k : Nat) : Prop := rs.length = l.length ∧ ∀ j (hj : j < l.length) (hj' : j < rl.length), j < k → rs[aheadZ l l[j]]? = some rl[j]

theorem PutS.next {l m : List Hz} {rl rs : List Hv} {k : Nat} (hs : Sorted m) (hp : m.Perm l) (hd : Ids l) (h : PutS l rl rs k) (hk : k < l.length) (hk' : k < rl.length) : PutS l rl (rs.set (aheadZ l l[k]) rl[k]) (k + 1) := by
  obtain ⟨h1, h2⟩ := h
  refine ⟨by simp [h1], fun j hj hj' hjk => ?_⟩
  obtain ⟨a1, a2⟩ := ahead_of hs hp hk
  by_cases e : j = k
  · subst e
    rw [List.getElem?_set_self (by rw [h1, ← hp.length_eq]; exact a1)]
  · have hne : aheadZ l l[k] ≠ aheadZ l l[j] := by
      intro e'
      obtain ⟨b1, b2⟩ := ahead_of hs hp hj
      have e3 : l[j] = l[k] := by rw [← b2, ← a2]; congr 1; exact e'.symm
      rcases Nat.lt_or_ge j k with h | h
      · exact List.pairwise_iff_getElem.1 hd j k hj hk h (by rw [e3])
      · exact List.pairwise_iff_getElem.1 hd k j hk hj (by omega) (by rw [e3])
    rw [List.getElem?_set_ne hne]
    exact h2 j hj hj' (by omega)

theorem PutS.rows {w : World} {F : Nat → Prop} {l m : List Hz} {rl rs : List Hv} (hs : Sorted m) (hp : m.Perm l) (h : PutS l rl rs l.length) (hr : Rows3 w F rl l) : Rows3 w F rs m := by
  obtain ⟨h1, h2⟩ := h
  refine ⟨by rw [h1, hp.length_eq], fun i i1 i2 => ?_⟩
  obtain ⟨j, hj, e⟩ := List.mem_iff_getElem.1 (hp.mem_iff.1 (List.getElem_mem i2))
  have hj' : j < rl.length := by rw [hr.len]; exact hj
  have h3 := h2 j hj hj' hj
  rw [e, ahead_perm hp, ahead_at hs i2, List.getElem?_eq_getElem i1] at h3
  rw [Option.some.inj h3, ← e]
  exact hr.each j hj' hj

end Go.Proofs.Ytfjhipaoljnfaaa
