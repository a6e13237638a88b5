/-
  Hits of the call's own whose vectors are written over.
-/
import Derived.Test.YtfjhipaoljnfaaaRefH
namespace Go.Proofs.Ytfjhipaoljnfaaa
open Go.RowKit

/-- a row of n hits of the call's own, in the blocks from B on and below B'; what their vectors hold is not told, but how long they are -/
structure FlipS (w : World) (B B' n : Nat) (v : Value) (rs : List Hv) (lens : Nat → Nat) : Prop where
  ow : w.ownsRow B 35 3 v n (flat3 rs)
  ll : rs.length = n
  vb : ∀ b, v.ownBlock = some b → b < B'
  vs : ∀ i (h : i < rs.length), ∃ xs : List Int, xs.length = lens i ∧ w.ownsRow B 21 1 rs[i].vec (lens i) (xs.map (Value.int .i32))
  rb : ∀ r ∈ rs, ∀ b, r.vec.ownBlock = some b → b < B'
  ap : rs.Pairwise fun p q => p.vec.ownBlock = none ∨ p.vec.ownBlock ≠ q.vec.ownBlock

theorem FlipS.start {w w' : World} {v : Value} {rs : List Hv} {l : List Hz} (ho : w'.ownsRow w.heap.size 35 3 v rs.length (flat3 rs)) (hh : Held3 w' w.heap.size 21 rs l) : FlipS w' w.heap.size w'.heap.size l.length v rs (fun i => (l[i]?.map fun h => h.vec.length).getD 0) := by
  have hl := hh.len
  refine ⟨by rw [← hl]; exact ho, hl, fun b hb => (ho.lt b hb).2, fun i h1 => ?_, fun r hr b hb => (hh.lt hr b hb).2, hh.apart⟩
  have h2 : i < l.length := by omega
  refine ⟨l[i].vec, by simp [List.getElem?_eq_getElem h2], ?_⟩
  simp only [List.getElem?_eq_getElem h2, Option.map_some, Option.getD_some]
  exact (hh.own i h1 h2).2

theorem own_keep {w w' : World} {B e size n : Nat} {v : Value} {xs : List Value} (h : w.ownsRow B e size v n xs) (hk : ∀ b, v.ownBlock = some b → w'.heap[b]? = w.heap[b]?) : w'.ownsRow B e size v n xs := by
  obtain ⟨h0, h1 | ⟨g, cap, cur, rfl, hb, hh, r⟩⟩ := h
  · exact ⟨h0, .inl h1⟩
  · exact ⟨h0, .inr ⟨g, cap, cur, rfl, hb, by rw [hk g rfl]; exact hh, r⟩⟩

theorem FlipS.keep {w w' : World} {B B' n : Nat} {v : Value} {rs : List Hv} {lens : Nat → Nat} (m : FlipS w B B' n v rs lens) (hk : ∀ k, B ≤ k → k < B' → w'.heap[k]? = w.heap[k]?) : FlipS w' B B' n v rs lens := by
  refine ⟨own_keep m.ow fun b hb => hk b (m.ow.lt b hb).1 (m.vb b hb), m.ll, m.vb, fun i h1 => ?_, m.rb, m.ap⟩
  obtain ⟨xs, h3, h4⟩ := m.vs i h1
  exact ⟨xs, h3, own_keep h4 fun b hb => hk b (h4.lt b hb).1 (m.rb _ (List.getElem_mem h1) b hb)⟩

theorem FlipS.flip {w : World} {B B' n : Nat} {v : Value} {rs : List Hv} {lens : Nat → Nat} (m : FlipS w B B' n v rs lens) {k c g : Nat} (hk : k < rs.length) (hc : c < lens k) (hg : rs[k].vec.ownBlock = some g) (x : Int) :
    FlipS (w.setCell ⟨g, c, none⟩ (.int .i32 x)) B B' n v rs lens := by
  obtain ⟨xs, h3, h4⟩ := m.vs k hk
  have hvg : v.ownBlock ≠ some g := by
    rcases own_apart h4 m.ow (by decide) with h | h
    · rw [h] at hg; cases hg
    · exact fun e => h (by rw [hg, e])
  refine ⟨ownsRow_setCell_other m.ow hvg _, m.ll, m.vb, fun i h1 => ?_, m.rb, m.ap⟩
  by_cases e : i = k
  · subst e
    refine ⟨xs.set c x, by simp [h3], ?_⟩
    have := own_setCell h4 hg (o := c) (by omega) (.int .i32 x)
    rwa [← List.map_set] at this
  · obtain ⟨ys, h5, h6⟩ := m.vs i h1
    refine ⟨ys, h5, ownsRow_setCell_other h6 (fun e2 => ?_) _⟩
    rcases Nat.lt_or_ge i k with h | h
    · rcases List.pairwise_iff_getElem.1 m.ap i k h1 hk h with h7 | h7
      · rw [h7] at e2; cases e2
      · exact h7 (by rw [e2, hg])
    · rcases List.pairwise_iff_getElem.1 m.ap k i hk h1 (by omega) with h7 | h7
      · rw [h7] at hg; cases hg
      · exact h7 (by rw [e2, hg])

/-- where a vector lies, and what is at place c -/
theorem FlipS.at {w : World} {B B' n : Nat} {v : Value} {rs : List Hv} {lens : Nat → Nat} (m : FlipS w B B' n v rs lens) {k : Nat} (hk : k < n) :
    ∃ g cg q cap, v = .slice (some ⟨g, 0, none⟩) n cg ∧ w.cell? ⟨g, k * 3 + 1 + 1, none⟩ = some (.slice q (lens k) cap) ∧ lens k ≤ 9223372036854775807 ∧ ∀ c, c < lens k → ∃ b x, q = some ⟨b, 0, none⟩ ∧ B ≤ b ∧ b < B' ∧ w.cell? ⟨b, c, none⟩ = some (.int .i32 x) ∧ w.frozen? ⟨b, c, none⟩ = false ∧ ∀ y, FlipS (w.setCell ⟨b, c, none⟩ (.int .i32 y)) B B' n v rs lens := by
  have hkr : k < rs.length := by rw [m.ll]; exact hk
  obtain ⟨g, cg, hv, -, -⟩ := m.ow.form (by omega)
  have hg : v.ownBlock = some g := by rw [hv]; rfl
  obtain ⟨xs, h3, h4⟩ := m.vs k hkr
  obtain ⟨q, cap, hq⟩ := own_slice h4
  have hcell := own_cell m.ow hg (flat3_get rs k hkr).2.2
  rw [hq] at hcell
  have hbig : lens k ≤ 9223372036854775807 := by
    rcases h4.2 with ⟨-, h⟩ | ⟨_, _, _, -, -, -, h, h', -⟩
    · omega
    · have h'' := h'; simp only [maxLen] at h''; omega
  refine ⟨g, cg, q, cap, hv, hcell, hbig, fun c hc => ?_⟩
  obtain ⟨b, cb, hb, -, -⟩ := h4.form (by omega)
  have hbo : rs[k].vec.ownBlock = some b := by rw [hb]; rfl
  rw [hq] at hb
  obtain ⟨rfl, -, rfl⟩ := Value.slice.inj hb
  have hth := own_there h4 hbo c 1 (by omega) 0 (by omega)
  refine ⟨b, xs[c]'(by omega), rfl, (h4.lt b hbo).1, m.rb _ (List.getElem_mem hkr) b hbo, own_cell h4 hbo (by rw [List.getElem?_map, List.getElem?_eq_getElem (by omega)]; rfl), by simpa using hth.2, fun y => m.flip hkr hc hbo y⟩

end Go.Proofs.Ytfjhipaoljnfaaa
