/-
  best's law: BestRoom, IDs are set in place.
-/
import Derived.Test.YtfjhipaoljnfaaaBestT
import Derived.Test.YtfjhipaoljnfaaaBestS
namespace Go.Proofs.Ytfjhipaoljnfaaa
open Go.RowKit

theorem flat3_set (rs : List Hv) (i : Nat) (hi : i < rs.length) (x : Int) : (flat3 rs).set (i * 3) (.int .u64 x) = flat3 (rs.set i ⟨x, rs[i].dist, rs[i].vec⟩) := by
  induction rs generalizing i with
  | nil => simp at hi
  | cons r rs ih =>
    cases i with
    | zero => simp [flat3]
    | succ i =>
      have := ih i (by simpa using hi)
      rw [show (i + 1) * 3 = i * 3 + 3 by omega]
      simpa [flat3] using this

/-- the first k have their place as ID -/
def numZ (l : List Hz) (k : Nat) : List Hz := l.mapIdx fun i h => if i < k then ⟨(i : Int), h.dist, h.vec⟩ else h

theorem numZ_length (l : List Hz) (k : Nat) : (numZ l k).length = l.length := by simp [numZ]
theorem numZ_zero (l : List Hz) : numZ l 0 = l := by
  apply List.ext_getElem
  · simp [numZ]
  · intro i h1 h2; simp [numZ]

theorem numZ_set (l : List Hz) (k : Nat) (hk : k < l.length) : numZ l (k + 1) = (numZ l k).set k ⟨(k : Int), l[k].dist, l[k].vec⟩ := by
  apply List.ext_getElem
  · simp [numZ]
  · intro i h1 h2
    rw [List.getElem_set]
    simp only [numZ, List.getElem_mapIdx]
    by_cases e : k = i
    · subst e; simp
    · rw [if_neg e]
      by_cases h : i < k
      · rw [if_pos (by omega), if_pos h]
      · rw [if_neg (by omega), if_neg h]

theorem numZ_at (l : List Hz) (k : Nat) (hk : k < l.length) : (numZ l k)[k]'(by rw [numZ_length]; exact hk) = l[k] := by simp [numZ]

theorem numZ_ids (l : List Hz) : Ids (numZ l l.length) := by
  rw [Ids, List.pairwise_iff_getElem]
  intro i j hi hj hij
  rw [numZ_length] at hi hj
  simp only [numZ, List.getElem_mapIdx, if_pos hi, if_pos hj]
  intro e
  have : (i : Int) = j := e
  omega

theorem numZ_vec {l : List Hz} {k : Nat} {N : Nat} (hx : ∀ h ∈ l, h.vec.length ≤ N) : ∀ h ∈ numZ l k, h.vec.length ≤ N := by
  intro h hh
  obtain ⟨i, hi, rfl⟩ := List.mem_iff_getElem.1 hh
  rw [numZ_length] at hi
  simp only [numZ, List.getElem_mapIdx]
  split
  · exact hx l[i] (List.getElem_mem hi)
  · exact hx _ (List.getElem_mem hi)

theorem Held3.set {w : World} {B E : Nat} {rs : List Hv} {l : List Hz} (h : Held3 w B E rs l) {k : Nat} (hk : k < rs.length) (hl : k < l.length) (x : Int) : Held3 w B E (rs.set k ⟨x, rs[k].dist, rs[k].vec⟩) (l.set k ⟨x, l[k].dist, l[k].vec⟩) := by
  refine ⟨by simp [h.len], fun i h1 h2 => ?_, ?_⟩
  · rw [List.length_set] at h1 h2
    rw [List.getElem_set, List.getElem_set]
    by_cases e : k = i
    · subst e
      obtain ⟨⟨_, b⟩, c⟩ := h.own k hk hl
      simpa using And.intro b c
    · rw [if_neg e, if_neg e]
      exact h.own i h1 h2
  · rw [List.pairwise_iff_getElem]
    intro i j hi hj hij
    rw [List.length_set] at hi hj
    have hp := List.pairwise_iff_getElem.1 h.apart i j hi hj hij
    have e1 : ((rs.set k ⟨x, rs[k].dist, rs[k].vec⟩)[i]'(by simpa using hi)).vec = rs[i].vec := by
      rw [List.getElem_set]; split
      · rename_i e; subst e; rfl
      · rfl
    have e2 : ((rs.set k ⟨x, rs[k].dist, rs[k].vec⟩)[j]'(by simpa using hj)).vec = rs[j].vec := by
      rw [List.getElem_set]; split
      · rename_i e; subst e; rfl
      · rfl
    rw [e1, e2]
    exact hp

end Go.Proofs.Ytfjhipaoljnfaaa
