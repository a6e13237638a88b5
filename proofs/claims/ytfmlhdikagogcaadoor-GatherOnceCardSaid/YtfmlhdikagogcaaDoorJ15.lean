/-
  best: slices of hits: one is taken out, one is put in.
-/
import Derived.Test.YtfmlhdikagogcaaDoorJ14
import Derived.Deep.DeepAppendRoom
import Derived.Laws.IdiomCopy
namespace Go.Proofs.YtfmlhdikagogcaaDoor
open Go.RowKit
set_option maxRecDepth 20000

theorem rowHit : RowTy Tryd.prog 35 40 3 40 (.agg #[.int .u64 0, .int .u64 0, .slice none 0 0]) := ⟨Tryd.underlying35, by kernel_rfl, rfl, by decide⟩

theorem zeroHit (w : World) : (zeroValue 40).run Tryd.prog w = .ok (.agg #[.int .u64 0, .int .u64 0, .slice none 0 0]) w := by kernel_rfl

/-- a shorter slice of the same row -/
theorem own_prefix {w : World} {base e size g n cap k : Nat} {xs : List Value} (h : w.ownsRow base e size (.slice (some ⟨g, 0, none⟩) n cap) n xs) (hk : k ≤ n) : w.ownsRow base e size (.slice (some ⟨g, 0, none⟩) k cap) k (xs.take (k * size)) := by
  obtain ⟨h1, ⟨h2, _⟩ | ⟨g', cap', cur, hv, hb, hh, hn, hm, hs, ht⟩⟩ := h
  · cases h2
  · obtain ⟨ha, _, hc⟩ := Value.slice.inj hv
    simp only [Option.some.injEq, Addr.mk.injEq, and_true] at ha
    subst ha; subst hc
    have hle : k * size ≤ n * size := Nat.mul_le_mul_right _ hk
    refine ⟨by simp only [List.length_take]; omega, .inr ⟨g, cap, cur, rfl, hb, hh, by omega, hm, hs, ?_⟩⟩
    rw [← ht, List.take_take, show min (k * size) (n * size) = k * size by omega]

theorem own_cap {w : World} {base e size g n cap : Nat} {xs : List Value} (h : w.ownsRow base e size (.slice (some ⟨g, 0, none⟩) n cap) n xs) : n ≤ cap ∧ cap ≤ maxLen ∧ ∃ cur : Array Value, w.heap[g]? = some (.cells cur e (0, 0)) ∧ cur.size = cap * size := by
  obtain ⟨h1, ⟨h2, _⟩ | ⟨g', cap', cur, hv, hb, hh, hn, hm, hs, ht⟩⟩ := h
  · cases h2
  · obtain ⟨ha, _, hc⟩ := Value.slice.inj hv
    simp only [Option.some.injEq, Addr.mk.injEq, and_true] at ha
    subst ha; subst hc
    exact ⟨hn, hm, cur, hh, hs⟩

/-- a cell behind the row's end is written -/
theorem own_setCell_far {w : World} {base e size g n cap o : Nat} {xs : List Value} (h : w.ownsRow base e size (.slice (some ⟨g, 0, none⟩) n cap) n xs) (ho : n * size ≤ o) (u : Value) : (w.setCell ⟨g, o, none⟩ u).ownsRow base e size (.slice (some ⟨g, 0, none⟩) n cap) n xs := by
  obtain ⟨h1, ⟨h2, _⟩ | ⟨g', cap', cur, hv, hb, hh, hn, hm, hs, ht⟩⟩ := h
  · cases h2
  · obtain ⟨ha, _, hc⟩ := Value.slice.inj hv
    simp only [Option.some.injEq, Addr.mk.injEq, and_true] at ha
    subst ha; subst hc
    refine ⟨h1, .inr ⟨g, cap, cur.setIfInBounds o u, rfl, hb, ?_, hn, hm, by simpa using hs, ?_⟩⟩
    · simp [World.setCell, Array.getElem?_modify, hh]
    · rw [← ht]
      simp only [Array.toList_setIfInBounds]
      rw [List.take_set_of_le ho]

theorem own_setCells_far {base e size g n cap : Nat} : ∀ (vs : List Value) (o : Nat) (w : World) (xs : List Value), w.ownsRow base e size (.slice (some ⟨g, 0, none⟩) n cap) n xs → n * size ≤ o → (w.setCells g o vs).ownsRow base e size (.slice (some ⟨g, 0, none⟩) n cap) n xs
  | [], _, _, _, h, _ => h
  | u :: r, o, w, xs, h, ho => by
    rw [World.setCells]
    exact own_setCells_far r (o + 1) _ _ (own_setCell_far h ho u) (by omega)

theorem mod_setCells {F : Nat → Prop} {w0 w : World} (h : Mod F w0 w) {g : Nat} (hg : F g ∨ w0.heap.size ≤ g) : ∀ (vs : List Value) (o : Nat) , Mod F w0 (w.setCells g o vs) := by
  intro vs o
  exact h.grown (grownBy_setCells g vs o w) (fun k hk => by cases hk; exact hg)

/-- clear(s) of one hit -/
theorem run_clear1 {w : World} {base g n cap o : Nat} {xs : List Value} (h : w.ownsRow base 40 3 (.slice (some ⟨g, 0, none⟩) n cap) n xs) (ho : o + 3 ≤ cap * 3) (c ty : Nat) :
    (Builtin.clear_ #[35] ty #[.slice (some ⟨g, o, none⟩) 1 c]).run Tryd.prog w = .ok (.tuple #[]) (w.setCells g o [.int .u64 0, .int .u64 0, .slice none 0 0]) := by
  obtain ⟨_, _, cur, hh, hs⟩ := own_cap h
  have hst := run_storeCells_cells (P := Tryd.prog) g o [.int .u64 0, .int .u64 0, .slice none 0 0] 0 w (fun j hj => by
    have : o + j < cur.size := by simp at hj; omega
    simp [World.cell?, hh, this]) (fun j hj => by simp [World.frozen?, hh]) (by simp [Value.oneCell'])
  simp only [Nat.add_zero] at hst
  have hz : (Builtin.zeroCells (Value.agg #[.int .u64 0, .int .u64 0, .slice none 0 0]).cells 1).toList = [.int .u64 0, .int .u64 0, .slice none 0 0] := by kernel_rfl
  simp [Builtin.clear_, run_underlying Tryd.underlying35, zeroHit, hz, hst]

end Go.Proofs.YtfmlhdikagogcaaDoor
