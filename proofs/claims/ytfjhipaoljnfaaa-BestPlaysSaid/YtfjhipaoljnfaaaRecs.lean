/-
  Slices of pairs: a number and a vector each (api.Op, chain.Version, maze's nodes).
-/
import Derived.Test.YtfjhipaoljnfaaaOwn
namespace Go.Proofs.Ytfjhipaoljnfaaa
open Go.RowKit

theorem Nums.of_own {w : World} {base e : Nat} {k : IntKind} {v : Value} {n : Nat} {xs : List Int} (h : w.ownsRow base e 1 v n (xs.map (Value.int k))) : Nums w k v xs := by
  obtain ⟨h1, h2⟩ := h
  have hn : n = xs.length := by simpa using h1.symm
  subst hn
  rcases h2 with ⟨h2, h3⟩ | ⟨g, cap, cur, hv, hb, hg, hn, hc, hs, ht⟩
  · obtain rfl : xs = [] := List.eq_nil_of_length_eq_zero h3
    exact ⟨by simp, none, 0, h2, by simp, by simp, by simp, fun j u hj => by simp at hj⟩
  · refine ⟨by simp, _, cap, hv, hn, by simpa [maxLen] using hc, by simp, fun j u hj => ⟨g, 0, rfl, ?_⟩⟩
    rw [← ht, List.getElem?_take] at hj
    split at hj
    · simp [World.cell?, hg]; simpa using hj
    · cases hj

theorem lt_block {w : World} {b : Nat} {o : Obj} (h : w.heap[b]? = some o) : b < w.heap.size := (Array.getElem?_eq_some_iff.1 h).1

/-- a slice of pairs reads so -/
def Recs (w : World) (v : Value) (l : List (Int × List Int)) : Prop :=
  ∃ p cap, v = .slice p l.length cap ∧ l.length ≤ cap ∧ cap ≤ 9223372036854775807 ∧ (p = none → cap = 0) ∧
    ∀ i (hi : i < l.length), ∃ b off u, p = some ⟨b, off, none⟩ ∧ w.cell? ⟨b, off + i * 2, none⟩ = some (.int .u64 l[i].1) ∧ w.cell? ⟨b, off + i * 2 + 1, none⟩ = some u ∧ Nums w .i32 u l[i].2

theorem Recs.below {w w' : World} {v : Value} {l : List (Int × List Int)} (h : Recs w v l) (hb : Below w.heap.size w w') : Recs w' v l := by
  obtain ⟨p, cap, hv, h1, h2, h3, h4⟩ := h
  refine ⟨p, cap, hv, h1, h2, h3, fun i hi => ?_⟩
  obtain ⟨b, off, u, hp, c0, c1, hn⟩ := h4 i hi
  exact ⟨b, off, u, hp, by rw [hb.cell (lt_of_cell c0)]; exact c0, by rw [hb.cell (lt_of_cell c1)]; exact c1, hn.below hb⟩

theorem Recs.elem {w : World} {p : Option Addr} {n cap : Nat} {l : List (Int × List Int)} (h : Recs w (.slice p n cap) l) {i : Nat} (hi : i < l.length) :
    ∃ b off u, p = some ⟨b, off, none⟩ ∧ w.cell? ⟨b, off + i * 2, none⟩ = some (.int .u64 l[i].1) ∧ w.cell? ⟨b, off + i * 2 + 1, none⟩ = some u ∧ Nums w .i32 u l[i].2 := by
  obtain ⟨p', cap', hv, _, _, _, h⟩ := h
  simp only [Value.slice.injEq] at hv
  obtain ⟨rfl, _, _⟩ := hv
  exact h i hi

/-- the cells of pairs, their vectors as values -/
def flat2 : List (Int × Value) → List Value
  | [] => []
  | r :: rs => .int .u64 r.1 :: r.2 :: flat2 rs

theorem flat2_length (rs : List (Int × Value)) : (flat2 rs).length = rs.length * 2 := by
  induction rs with
  | nil => rfl
  | cons r rs ih => simp [flat2, ih]; omega

theorem flat2_append (rs ss : List (Int × Value)) : flat2 (rs ++ ss) = flat2 rs ++ flat2 ss := by
  induction rs with
  | nil => rfl
  | cons r rs ih => simp [flat2, ih]

theorem flat2_get (rs : List (Int × Value)) (i : Nat) (hi : i < rs.length) : (flat2 rs)[i * 2]? = some (.int .u64 rs[i].1) ∧ (flat2 rs)[i * 2 + 1]? = some rs[i].2 := by
  induction rs generalizing i with
  | nil => simp at hi
  | cons r rs ih =>
    cases i with
    | zero => simp [flat2]
    | succ i =>
      have := ih i (by simpa using hi)
      have e1 : (i + 1) * 2 = i * 2 + 1 + 1 := by omega
      rw [e1]
      simp only [flat2, List.getElem?_cons_succ, List.getElem_cons_succ]
      exact this

/-- two owned rows of unlike element types lie apart -/
theorem own_apart {w : World} {B B' e e' size size' n n' : Nat} {v u : Value} {xs ys : List Value} (h : w.ownsRow B e size v n xs) (g : w.ownsRow B' e' size' u n' ys) (hne : e ≠ e') : v.ownBlock = none ∨ v.ownBlock ≠ u.ownBlock := by
  rcases h.2 with ⟨rfl, _⟩ | ⟨b, cap, cur, rfl, _, hb, _⟩
  · exact .inl rfl
  · right
    rcases g.2 with ⟨rfl, _⟩ | ⟨b', cap', cur', rfl, _, hb', _⟩
    · simp [Value.ownBlock]
    · simp only [Value.ownBlock, ne_eq, Option.some.injEq]
      rintro rfl
      rw [hb] at hb'
      simp only [Option.some.injEq, Obj.cells.injEq] at hb'
      exact hne hb'.2.1

/-- pairs whose vectors are rows of the call's own (from B on; of the element type E), each apart from the others -/
structure Held2 (w : World) (B E : Nat) (rs : List (Int × Value)) (l : List (Int × List Int)) : Prop where
  len : rs.length = l.length
  own : ∀ i (h1 : i < rs.length) (h2 : i < l.length), rs[i].1 = l[i].1 ∧ w.ownsRow B E 1 rs[i].2 l[i].2.length (l[i].2.map (Value.int .i32))
  apart : rs.Pairwise fun p q => p.2.ownBlock = none ∨ p.2.ownBlock ≠ q.2.ownBlock

theorem Held2.nil (w : World) (B E : Nat) : Held2 w B E [] [] := ⟨rfl, fun i h _ => absurd h (by simp), List.Pairwise.nil⟩

theorem Held2.below {w w' : World} {B E : Nat} {rs : List (Int × Value)} {l : List (Int × List Int)} (h : Held2 w B E rs l) (hb : Below w.heap.size w w') : Held2 w' B E rs l :=
  ⟨h.len, fun i h1 h2 => ⟨(h.own i h1 h2).1, own_below (h.own i h1 h2).2 hb⟩, h.apart⟩

/-- a row of another element type is written -/
theorem Held2.other {w w' : World} {B E B' e size n : Nat} {v : Value} {xs : List Value} {rs : List (Int × Value)} {l : List (Int × List Int)} (h : Held2 w B E rs l) (ho : w.ownsRow B' e size v n xs) (hne : E ≠ e) (hg : w.grownBy w' v.ownBlock) : Held2 w' B E rs l :=
  ⟨h.len, fun i h1 h2 => ⟨(h.own i h1 h2).1, (h.own i h1 h2).2.kept hg (own_apart (h.own i h1 h2).2 ho hne)⟩, h.apart⟩

theorem Held2.lt {w : World} {B E : Nat} {rs : List (Int × Value)} {l : List (Int × List Int)} (h : Held2 w B E rs l) {r : Int × Value} (hr : r ∈ rs) : ∀ b, r.2.ownBlock = some b → B ≤ b ∧ b < w.heap.size := by
  obtain ⟨i, hi, rfl⟩ := List.mem_iff_getElem.1 hr
  exact (h.own i hi (by rw [← h.len]; exact hi)).2.lt

theorem Held2.snoc {w : World} {B E : Nat} {rs : List (Int × Value)} {l : List (Int × List Int)} (h : Held2 w B E rs l) {x : Int} {u : Value} {xs : List Int} (hn : w.ownsRow B E 1 u xs.length (xs.map (Value.int .i32)))
    (hap : ∀ r ∈ rs, r.2.ownBlock = none ∨ r.2.ownBlock ≠ u.ownBlock) : Held2 w B E (rs ++ [(x, u)]) (l ++ [(x, xs)]) := by
  refine ⟨by simp [h.len], fun i h1 h2 => ?_, ?_⟩
  · simp only [List.length_append, List.length_cons, List.length_nil] at h1 h2
    rcases Nat.lt_or_ge i rs.length with hi | hi
    · rw [List.getElem_append_left hi, List.getElem_append_left (by rw [← h.len]; exact hi)]
      exact h.own i hi _
    · have e1 : i = rs.length := by omega
      subst e1
      rw [List.getElem_append_right (by omega)]
      have e2 : l.length ≤ rs.length := by rw [h.len]; exact Nat.le_refl _
      rw [List.getElem_append_right e2]
      simp [h.len, hn]
  · rw [List.pairwise_append]
    exact ⟨h.apart, List.pairwise_singleton _ _, fun r hr y hy => by simp only [List.mem_singleton] at hy; subst hy; exact hap r hr⟩

theorem Recs.of_own {w : World} {B e n : Nat} {v : Value} {rs : List (Int × Value)} {l : List (Int × List Int)} {B' E : Nat} (h : w.ownsRow B e 2 v n (flat2 rs)) (hh : Held2 w B' E rs l) : Recs w v l := by
  obtain ⟨h1, h2⟩ := h
  rw [flat2_length] at h1
  have hn : n = l.length := by have := hh.len; omega
  subst hn
  rcases h2 with ⟨h2, h3⟩ | ⟨g, cap, cur, hv, hb, hg, hn, hc, hs, ht⟩
  · have : l = [] := List.eq_nil_of_length_eq_zero h3
    subst this
    exact ⟨none, 0, h2, by simp, by simp, by simp, fun i hi => absurd hi (by simp)⟩
  · refine ⟨_, cap, hv, hn, by simpa [maxLen] using hc, by simp, fun i hi => ?_⟩
    have hir : i < rs.length := by rw [hh.len]; exact hi
    have hf := flat2_get rs i hir
    have ha := hh.own i hir hi
    have hcell : ∀ j u, (flat2 rs)[j]? = some u → w.cell? ⟨g, j, none⟩ = some u := by
      intro j u hj
      rw [← ht, List.getElem?_take] at hj
      split at hj
      · simp only [World.cell?, hg]; simpa using hj
      · cases hj
    refine ⟨g, 0, rs[i].2, rfl, ?_, ?_, Nums.of_own ha.2⟩
    · rw [Nat.zero_add, ← ha.1]; exact hcell _ _ hf.1
    · rw [Nat.zero_add]; exact hcell _ _ hf.2

end Go.Proofs.Ytfjhipaoljnfaaa
