/-
  best's law: BestMerges: what the script has laid so far.
-/
import Derived.Test.YtfjhipaoljnfaaaRefE
namespace Go.Proofs.Ytfjhipaoljnfaaa
open Go.RowKit

/-- of one ID and one distance there is one vector -/
def detZ (h : Hz) : Hz := ⟨h.id, h.dist, [h.id % 7, h.dist % 7]⟩

theorem det_vec {l : List Hz} : ∀ h ∈ l.map detZ, h.vec.length ≤ 1000000 := by
  intro h hh
  obtain ⟨x, -, rfl⟩ := List.mem_map.1 hh
  simp [detZ]

theorem det_det {l : List Hz} : ∀ a ∈ l.map detZ, ∀ b ∈ l.map detZ, a.id = b.id → a.dist = b.dist → a = b := by
  intro a ha b hb h1 h2
  obtain ⟨x, -, rfl⟩ := List.mem_map.1 ha
  obtain ⟨y, -, rfl⟩ := List.mem_map.1 hb
  have h1' : x.id = y.id := h1
  have h2' : x.dist = y.dist := h2
  simp [detZ, h1', h2']

/-- the first j are so already -/
def mixZ (l : List Hz) (j : Nat) : List Hz := l.mapIdx fun i h => if i < j then detZ h else h

theorem mixZ_length (l : List Hz) (j : Nat) : (mixZ l j).length = l.length := by simp [mixZ]
theorem mixZ_zero (l : List Hz) : mixZ l 0 = l := by
  apply List.ext_getElem
  · simp [mixZ]
  · intro i h1 h2; simp [mixZ]
theorem mixZ_all (l : List Hz) : mixZ l l.length = l.map detZ := by
  apply List.ext_getElem
  · simp [mixZ]
  · intro i h1 h2
    rw [mixZ_length] at h1
    simp [mixZ, h1]
theorem mixZ_set (l : List Hz) (k : Nat) (hk : k < l.length) : mixZ l (k + 1) = (mixZ l k).set k (detZ l[k]) := by
  apply List.ext_getElem
  · simp [mixZ]
  · intro i h1 h2
    rw [List.getElem_set]
    simp only [mixZ, List.getElem_mapIdx]
    by_cases e : k = i
    · subst e; simp
    · rw [if_neg e]
      by_cases h : i < k
      · rw [if_pos (by omega), if_pos h]
      · rw [if_neg (by omega), if_neg h]
theorem mixZ_at (l : List Hz) (k : Nat) (hk : k < l.length) : (mixZ l k)[k]'(by rw [mixZ_length]; exact hk) = l[k] := by simp [mixZ]

theorem flat3_setv (rs : List Hv) (i : Nat) (hi : i < rs.length) (u : Value) : (flat3 rs).set (i * 3 + 1 + 1) u = flat3 (rs.set i ⟨rs[i].id, rs[i].dist, u⟩) := by
  induction rs generalizing i with
  | nil => simp at hi
  | cons r rs ih =>
    cases i with
    | zero => simp [flat3]
    | succ i =>
      have := ih i (by simpa using hi)
      rw [show (i + 1) * 3 + 1 + 1 = i * 3 + 1 + 1 + 1 + 1 + 1 by omega]
      simpa [flat3] using this

/-- a row with one vector of two new numbers -/
theorem rows_set {w w5 : World} {G G5 : Nat → Prop} {rs : List Hv} {l : List Hz} {k g : Nat} {x y : Int} (hr : Rows3 w G rs l) (hk : k < l.length) (hk' : k < rs.length) (hGG : ∀ j, G j → G5 j) (hkeep : ∀ j, G j → w5.heap[j]? = w.heap[j]?)
    (hg : w5.heap[g]? = some (.cells #[.int .i32 x, .int .i32 y] 21 (0, 0))) (hG5 : G5 g) : Rows3 w5 G5 (rs.set k ⟨rs[k].id, rs[k].dist, .slice (some ⟨g, 0, none⟩) 2 2⟩) (l.set k ⟨l[k].id, l[k].dist, [x, y]⟩) := by
  refine ⟨by simp [hr.len], fun i h1 h2 => ?_⟩
  rw [List.length_set] at h1 h2
  rw [List.getElem_set, List.getElem_set]
  by_cases e : k = i
  · subst e
    obtain ⟨a, b, -⟩ := hr.each k hk' hk
    simp only [if_pos rfl, if_true]
    refine ⟨a, b, Nums.mk (by simp) (by simp) (by simp) fun i hi => ⟨g, 0, rfl, ?_⟩, fun _ b hb => by cases hb; exact hG5⟩
    have : i = 0 ∨ i = 1 := by simp at hi; omega
    rcases this with rfl | rfl <;> simp [World.cell?, hg]
  · rw [if_neg e, if_neg e]
    obtain ⟨a, b, c, d⟩ := hr.each i h1 h2
    exact ⟨a, b, c.agree d hkeep, d.mono hGG⟩

theorem rowLists : RowTy Try.prog 38 22 1 24 (.slice none 0 0) := ⟨Try.underlying38, by kernel_rfl, rfl, by decide⟩

theorem own_fresh (w : World) (base e : Nat) (u : Value) (hb : base ≤ w.heap.size) : (w.alloc (.cells #[u] e)).ownsRow base e 1 (.slice (some ⟨w.heap.size, 0, none⟩) 1 1) 1 [u] :=
  ⟨by simp, .inr ⟨_, _, #[u], rfl, hb, heap_alloc_new _ _, Nat.le_refl _, by simp [maxLen], by simp, by simp⟩⟩

/-- what the script has laid so far: the lists, both ways round; the document's list of all -/
structure MState (w : World) (B c : Nat) (vl vb : Value) (ps : List Value) (E FX : Nat → Prop) (ls : List (List Hz)) : Prop where
  ol : w.ownsRow B 22 1 vl ls.length ps
  ob : w.ownsRow B 22 1 vb ls.length ps.reverse
  ap : ∀ b, vl.ownBlock = some b → vb.ownBlock ≠ some b
  dat : ∀ i (h : i < ls.length), ∃ q qc, ps[i]? = some (.slice q ls[i].length qc) ∧ HitsF w E (.slice q ls[i].length qc) ls[i]
  elo : ∀ k, E k → B ≤ k
  ehi : ∀ k, E k → k < w.heap.size
  el : ∀ b, vl.ownBlock = some b → ¬ E b ∧ ¬ FX b
  eb : ∀ b, vb.ownBlock = some b → ¬ E b ∧ ¬ FX b
  rl : RefL w FX c 1048576 (addsZ 1048576 [] ls.flatten).2
  fhi : ∀ k, FX k → k < w.heap.size
  flo : ∀ k, FX k → c ≤ k
  cB : c < B
  ln : ls.length ≤ 6
  l12 : ∀ ms ∈ ls, ms.length ≤ 12
  vec : ∀ ms ∈ ls, ∀ h ∈ ms, h.vec.length ≤ 1000000

theorem flat_len {ls : List (List Hz)} {n : Nat} (h : ∀ ms ∈ ls, ms.length ≤ n) : ls.flatten.length ≤ n * ls.length := by
  induction ls with
  | nil => simp
  | cons a ls ih =>
    have h1 := h a (by simp)
    have h2 := ih fun ms hm => h ms (by simp [hm])
    simp only [List.flatten_cons, List.length_append, List.length_cons, Nat.mul_add, Nat.mul_one]
    omega

theorem MState.flat {w : World} {B c : Nat} {vl vb : Value} {ps : List Value} {E FX : Nat → Prop} {ls : List (List Hz)} (m : MState w B c vl vb ps E FX ls) : ls.flatten.length ≤ 72 := by
  have := flat_len m.l12
  have := m.ln
  omega

theorem MState.fvec {w : World} {B c : Nat} {vl vb : Value} {ps : List Value} {E FX : Nat → Prop} {ls : List (List Hz)} (m : MState w B c vl vb ps E FX ls) : ∀ h ∈ ls.flatten, h.vec.length ≤ 1000000 := by
  intro h hh
  obtain ⟨ms, hm, hh⟩ := List.mem_flatten.1 hh
  exact m.vec ms hm h hh

/-- nothing of it has turned but the document's list -/
theorem MState.next {wo w : World} {B c : Nat} {vl vb : Value} {ps : List Value} {E FX : Nat → Prop} {ls : List (List Hz)} (m : MState wo B c vl vb ps E FX ls) (hm : Mod (fun k => k = c) wo w) :
    w.ownsRow B 22 1 vl ls.length ps ∧ w.ownsRow B 22 1 vb ls.length ps.reverse ∧ ∀ i (h : i < ls.length), ∃ q qc, ps[i]? = some (.slice q ls[i].length qc) ∧ HitsF w E (.slice q ls[i].length qc) ls[i] := by
  have hc := m.cB
  have own : ∀ (v : Value) (xs : List Value), wo.ownsRow B 22 1 v ls.length xs → w.ownsRow B 22 1 v ls.length xs := by
    intro v xs h
    obtain ⟨h0, h1 | ⟨g, cap, cur, rfl, hb, hh, r⟩⟩ := h
    · exact ⟨h0, .inl h1⟩
    · exact ⟨h0, .inr ⟨g, cap, cur, rfl, hb, by rw [hm.block g (lt_block hh) (by omega)]; exact hh, r⟩⟩
  refine ⟨own _ _ m.ol, own _ _ m.ob, fun i h => ?_⟩
  obtain ⟨q, qc, h1, h2⟩ := m.dat i h
  exact ⟨q, qc, h1, h2.agree fun k hk => hm.block k (m.ehi k hk) (by have := m.elo k hk; omega)⟩

end Go.Proofs.Ytfjhipaoljnfaaa
