/-
  gather: GatherMerges: what has been told after so many.
  best's law: BestOrders.
  best's law: BestRoom, IDs are set in place.
  best's law: BestRoom.
-/
import Derived.Test.YtfmlhdikagogcaaDoorJ46
import Derived.Test.YtfmlhdikagogcaaDoorJ28
namespace Go.Proofs.YtfmlhdikagogcaaDoor
open Go.RowKit
set_option maxRecDepth 20000

/-- what has been told by these -/
def saidZ (T : Int → List Hz) (ts : List Int) : List (Int × List Hz) := ts.map fun p => (p + 1, T p)

theorem said_has (T : Int → List Hz) (ts : List Int) (p : Int) : hasTold (saidZ T ts) (p + 1) = decide (p ∈ ts) := by
  unfold hasTold saidZ
  rw [Bool.eq_iff_iff]
  simp only [List.any_map, List.any_eq_true, Function.comp, beq_iff_eq, decide_eq_true_eq]
  exact ⟨fun ⟨x, hx, e⟩ => by have : x = p := by omega
                              exact this ▸ hx, fun h => ⟨p, h, rfl⟩⟩

theorem said_of (T : Int → List Hz) (ts : List Int) (p : Int) (h : p ∈ ts) : toldOf (saidZ T ts) (p + 1) = T p := by
  unfold toldOf saidZ
  induction ts with
  | nil => simp at h
  | cons x ts ih =>
    rw [List.map_cons]
    by_cases e : x = p
    · subst e; simp
    · rw [List.find?_cons_of_neg (by simp; omega)]
      rcases List.mem_cons.1 h with h | h
      · exact absurd h.symm e
      · exact ih h

theorem said_snoc (T : Int → List Hz) (ts : List Int) (k : Nat) (hk : k < ts.length) : saidZ T (ts.take (k + 1)) = saidZ T (ts.take k) ++ [(ts[k] + 1, T ts[k])] := by
  unfold saidZ
  rw [List.take_succ_eq_append_getElem hk, List.map_append]
  rfl

theorem said_all {n : Nat} (hn : 1 ≤ n) (T : Int → List Hz) (t0 : List (Int × List Hz)) {ts : List Int} (h : ts.Perm [0, 1, 2]) : answerZ ⟨nML n, 4, 1, [1, 2, 3], t0⟩ (saidZ T ts) = mergeZ n [T 0, T 1, T 2] := by
  rw [merge_answer n hn]
  have h0 : toldOf (saidZ T ts) 1 = T 0 := said_of T ts 0 (h.mem_iff.2 (by simp))
  have h1 : toldOf (saidZ T ts) 2 = T 1 := said_of T ts 1 (h.mem_iff.2 (by simp))
  have h2 : toldOf (saidZ T ts) 3 = T 2 := said_of T ts 2 (h.mem_iff.2 (by simp))
  rw [h0, h1, h2]

theorem todo_range {ts : List Int} (h : ts.Perm [0, 1, 2]) : ∀ p ∈ ts, p = 0 ∨ p = 1 ∨ p = 2 := fun p hp => by
  have := h.mem_iff.1 hp
  simpa using this

theorem todo_new {ts : List Int} (h : ts.Perm [0, 1, 2]) {k : Nat} (hk : k < ts.length) : ts[k] ∉ ts.take k := by
  have hn : ts.Nodup := h.nodup_iff.2 (by decide)
  intro hm
  obtain ⟨j, hj, e⟩ := List.mem_iff_getElem.1 hm
  rw [List.length_take] at hj
  rw [List.getElem_take] at e
  exact (List.pairwise_iff_getElem.1 hn j k (by omega) hk (by omega)) e

/-- the gather after so many have told -/
def gMK (n : Int) (T : Int → List Hz) (ts : List Int) (k : Nat) : Gz := if k < 3 then gM n (saidZ T (ts.take k)) else ⟨3, 2, 1, []⟩

theorem gMK_ok (n : Nat) (hn : 1 ≤ n ∧ n ≤ 16) (T : Int → List Hz) (hT : ∀ p, (T p).length ≤ 16 ∧ ∀ h ∈ T p, h.vec.length ≤ 8) (ts : List Int) (k : Nat) : GOk (gMK n T ts k) := by
  unfold gMK
  split
  · rename_i hk
    refine ⟨by simp [gM], by simp [gM], fun q hq => ?_⟩
    simp only [gM, List.mem_singleton] at hq
    subst hq
    refine ⟨by simp, by simp [nML], ?_, by simp [nML], by show (n : Int) ≤ 16; omega, fun x hx => ?_⟩
    · show (saidZ T (ts.take k)).length < 3
      simp only [saidZ, List.length_map, List.length_take]
      omega
    · simp only [saidZ, List.mem_map] at hx
      obtain ⟨p, -, rfl⟩ := hx
      exact hT p
  · exact ⟨by simp, by decide, fun q hq => absurd hq (by simp)⟩

/-- the next one tells -/
theorem merge_next (n : Nat) (hn : 1 ≤ n ∧ n ≤ 16) (T : Int → List Hz) (hT : ∀ p, (T p).length ≤ 16) {ts : List Int} (h : ts.Perm [0, 1, 2]) {k : Nat} (hk : k < ts.length) (hB : ∀ h ∈ T ts[k], badHit h = false) :
    hearZ (gMK n T ts k) (ts[k] + 1) (nMS (T ts[k])) = (if k < 2 then [] else [(4, resN 1 1 0 (mergeZ n [T 0, T 1, T 2]))], gMK n T ts (k + 1)) := by
  have hl : ts.length = 3 := h.length_eq
  have hr := todo_range h ts[k] (List.getElem_mem hk)
  have hnew : hasTold (saidZ T (ts.take k)) (ts[k] + 1) = false := by rw [said_has]; exact decide_eq_false (todo_new h hk)
  unfold gMK
  rw [if_pos (show k < 3 by omega)]
  rw [merge_hear n _ ts[k] (T ts[k]) (by omega) (hT _) hB hnew]
  have hsl : (saidZ T (ts.take k)).length = k := by simp [saidZ]; omega
  rw [hsl, ← said_snoc T ts k hk]
  by_cases h2 : k < 2
  · rw [if_pos (show k + 1 < 3 by omega), if_pos h2, if_pos (show k + 1 < 3 by omega)]
  · rw [if_neg (show ¬ k + 1 < 3 by omega), if_neg h2, if_neg (show ¬ k + 1 < 3 by omega)]
    have : ts.take (k + 1) = ts := List.take_of_length_le (by omega)
    rw [this, said_all hn.1 T _ h]

end Go.Proofs.YtfmlhdikagogcaaDoor

namespace Go.Proofs.YtfmlhdikagogcaaDoor
open Go.RowKit
set_option maxRecDepth 20000

theorem one_list {w : World} {E : Nat → Prop} {q : Option Addr} {qc : Nat} {l : List Hz} (h : HitsF w E (.slice q l.length qc) l) :
    ListsF (w.alloc (.cells #[.slice q l.length qc] 35)) (fun k => k = w.heap.size ∨ E k) (.slice (some ⟨w.heap.size, 0, none⟩) 1 1) [l] := by
  refine ⟨_, 1, rfl, by simp, by decide, by simp, fun i hi => ⟨w.heap.size, 0, .slice q l.length qc, rfl, .inl rfl, ?_⟩⟩
  obtain rfl : i = 0 := by simp at hi; omega
  exact ⟨by go_simp <;> rfl, (h.below ((Below.refl _ _).alloc (Nat.le_refl _) _)).mono fun _ => .inr⟩

end Go.Proofs.YtfmlhdikagogcaaDoor

namespace Go.Proofs.YtfmlhdikagogcaaDoor
open Go.RowKit
set_option maxRecDepth 20000

theorem flat3_set (rs : List Hv) (i : Nat) (hi : i < rs.length) (x : Int) : (flat3 rs).set (i * 3) (.int .u64 x) = flat3 (rs.set i ⟨x, rs[i].dist, rs[i].vec⟩) := by
  induction rs generalizing i with
  | nil => simp at hi
  | cons r rs ih =>
    cases i with
    | zero => simp [flat3]
    | succ i =>
      have := ih i (by simpa using hi)
      rw [show (i + 1) * 3 = i * 3 + 3 by omega]
      simpa [flat3] using this

/-- the first k have their place as ID -/
def numZ (l : List Hz) (k : Nat) : List Hz := l.mapIdx fun i h => if i < k then ⟨(i : Int), h.dist, h.vec⟩ else h

theorem numZ_length (l : List Hz) (k : Nat) : (numZ l k).length = l.length := by simp [numZ]
theorem numZ_zero (l : List Hz) : numZ l 0 = l := by
  apply List.ext_getElem
  · simp [numZ]
  · intro i h1 h2; simp [numZ]

theorem numZ_set (l : List Hz) (k : Nat) (hk : k < l.length) : numZ l (k + 1) = (numZ l k).set k ⟨(k : Int), l[k].dist, l[k].vec⟩ := by
  apply List.ext_getElem
  · simp [numZ]
  · intro i h1 h2
    rw [List.getElem_set]
    simp only [numZ, List.getElem_mapIdx]
    by_cases e : k = i
    · subst e; simp
    · rw [if_neg e]
      by_cases h : i < k
      · rw [if_pos (by omega), if_pos h]
      · rw [if_neg (by omega), if_neg h]

theorem numZ_at (l : List Hz) (k : Nat) (hk : k < l.length) : (numZ l k)[k]'(by rw [numZ_length]; exact hk) = l[k] := by simp [numZ]

theorem numZ_ids (l : List Hz) : Ids (numZ l l.length) := by
  rw [Ids, List.pairwise_iff_getElem]
  intro i j hi hj hij
  rw [numZ_length] at hi hj
  simp only [numZ, List.getElem_mapIdx, if_pos hi, if_pos hj]
  intro e
  have : (i : Int) = j := e
  omega

theorem numZ_vec {l : List Hz} {k : Nat} {N : Nat} (hx : ∀ h ∈ l, h.vec.length ≤ N) : ∀ h ∈ numZ l k, h.vec.length ≤ N := by
  intro h hh
  obtain ⟨i, hi, rfl⟩ := List.mem_iff_getElem.1 hh
  rw [numZ_length] at hi
  simp only [numZ, List.getElem_mapIdx]
  split
  · exact hx l[i] (List.getElem_mem hi)
  · exact hx _ (List.getElem_mem hi)

theorem Held3.set {w : World} {B E : Nat} {rs : List Hv} {l : List Hz} (h : Held3 w B E rs l) {k : Nat} (hk : k < rs.length) (hl : k < l.length) (x : Int) : Held3 w B E (rs.set k ⟨x, rs[k].dist, rs[k].vec⟩) (l.set k ⟨x, l[k].dist, l[k].vec⟩) := by
  refine ⟨by simp [h.len], fun i h1 h2 => ?_, ?_⟩
  · rw [List.length_set] at h1 h2
    rw [List.getElem_set, List.getElem_set]
    by_cases e : k = i
    · subst e
      obtain ⟨⟨_, b⟩, c⟩ := h.own k hk hl
      simpa using And.intro b c
    · rw [if_neg e, if_neg e]
      exact h.own i h1 h2
  · rw [List.pairwise_iff_getElem]
    intro i j hi hj hij
    rw [List.length_set] at hi hj
    have hp := List.pairwise_iff_getElem.1 h.apart i j hi hj hij
    have e1 : ((rs.set k ⟨x, rs[k].dist, rs[k].vec⟩)[i]'(by simpa using hi)).vec = rs[i].vec := by
      rw [List.getElem_set]; split
      · rename_i e; subst e; rfl
      · rfl
    have e2 : ((rs.set k ⟨x, rs[k].dist, rs[k].vec⟩)[j]'(by simpa using hj)).vec = rs[j].vec := by
      rw [List.getElem_set]; split
      · rename_i e; subst e; rfl
      · rfl
    rw [e1, e2]
    exact hp

end Go.Proofs.YtfmlhdikagogcaaDoor

namespace Go.Proofs.YtfmlhdikagogcaaDoor
open Go.RowKit
set_option maxRecDepth 20000

theorem HitsF.first {w : World} {F : Nat → Prop} {p : Option Addr} {n c : Nat} {l : List Hz} (h : HitsF w F (.slice p n c) l) {k : Nat} (hk : k ≤ l.length) : HitsF w F (.slice p k c) (l.take k) := by
  obtain ⟨p', cap, hv, h1, h2, h3, h4⟩ := h
  obtain ⟨rfl, rfl, rfl⟩ := Value.slice.inj hv
  have hl : (l.take k).length = k := by rw [List.length_take]; omega
  refine ⟨p, c, by rw [hl], by omega, h2, h3, fun i hi => ?_⟩
  obtain ⟨b, off, u, r⟩ := h4 i (by omega)
  exact ⟨b, off, u, by simpa [List.getElem_take] using r⟩

end Go.Proofs.YtfmlhdikagogcaaDoor
