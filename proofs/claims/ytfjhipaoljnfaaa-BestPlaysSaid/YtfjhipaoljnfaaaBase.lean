/-
  Ground words of this family: how a slice in memory reads as a list of cells, and what a call leaves as it was.
-/
import Derived.Test.YtfjhipaoljnfaaaRows
import Derived.WalkKit
import Derived.WalkSpells
import Derived.WalkLawsBesides
import Derived.Lib.Hide
import Derived.Deep.LoopGhost
import Derived.Deep.QuietTactic
import Derived.BigQuiet
import Derived.Handy
namespace Go.Proofs.Ytfjhipaoljnfaaa
open Go.RowKit

/-- the slice value v of n elements (size cells each) reads in w as the cells xs -/
def Reads (w : World) (v : Value) (size n : Nat) (xs : List Value) : Prop :=
  xs.length = n * size ∧ ∃ p cap, v = .slice p n cap ∧ n ≤ cap ∧ cap ≤ 9223372036854775807 ∧ (p = none → cap = 0) ∧
    ∀ j u, xs[j]? = some u → ∃ b off, p = some ⟨b, off, none⟩ ∧ w.cell? ⟨b, off + j, none⟩ = some u

/-- a slice of numbers of kind k -/
def Nums (w : World) (k : IntKind) (v : Value) (xs : List Int) : Prop := Reads w v 1 xs.length (xs.map (Value.int k))

theorem Nums.slice {w : World} {k : IntKind} {v : Value} {xs : List Int} (h : Nums w k v xs) : ∃ p cap, v = .slice p xs.length cap ∧ xs.length ≤ cap ∧ cap ≤ 9223372036854775807 ∧ (p = none → cap = 0) ∧
    ∀ i (hi : i < xs.length), ∃ b off, p = some ⟨b, off, none⟩ ∧ w.cell? ⟨b, off + i, none⟩ = some (.int k xs[i]) := by
  obtain ⟨_, p, cap, hv, h1, h2, h3, h4⟩ := h
  exact ⟨p, cap, hv, h1, h2, h3, fun i hi => h4 i _ (by simp [List.getElem?_eq_getElem hi])⟩

theorem Nums.mk {w : World} {k : IntKind} {p : Option Addr} {cap : Nat} {xs : List Int} (h1 : xs.length ≤ cap) (h2 : cap ≤ 9223372036854775807) (h3 : p = none → cap = 0)
    (h4 : ∀ i (hi : i < xs.length), ∃ b off, p = some ⟨b, off, none⟩ ∧ w.cell? ⟨b, off + i, none⟩ = some (.int k xs[i])) : Nums w k (.slice p xs.length cap) xs := by
  refine ⟨by simp, p, cap, rfl, h1, h2, h3, fun j u hj => ?_⟩
  rw [List.getElem?_map, Option.map_eq_some_iff] at hj
  obtain ⟨x, hx, rfl⟩ := hj
  obtain ⟨hj', rfl⟩ := List.getElem?_eq_some_iff.1 hx
  exact h4 j hj'

theorem lt_of_cell {w : World} {a : Addr} {v : Value} (h : w.cell? a = some v) : a.block < w.heap.size := by
  refine Nat.lt_of_not_le fun hge => ?_
  simp [World.cell?, Array.getElem?_eq_none hge] at h

theorem Reads.below {w w' : World} {v : Value} {size n : Nat} {xs : List Value} (h : Reads w v size n xs) (hb : Below w.heap.size w w') : Reads w' v size n xs := by
  obtain ⟨h0, p, cap, hv, h1, h2, h3, h4⟩ := h
  refine ⟨h0, p, cap, hv, h1, h2, h3, fun j u hj => ?_⟩
  obtain ⟨b, off, hp, hc⟩ := h4 j u hj
  exact ⟨b, off, hp, by rw [hb.cell (lt_of_cell hc)]; exact hc⟩

theorem Nums.below {w w' : World} {k : IntKind} {v : Value} {xs : List Int} (h : Nums w k v xs) (hb : Below w.heap.size w w') : Nums w' k v xs := Reads.below h hb

theorem Nums.elem {w : World} {k : IntKind} {p : Option Addr} {n cap : Nat} {xs : List Int} (h : Nums w k (.slice p n cap) xs) {j : Nat} (hj : j < xs.length) :
    ∃ b off, p = some ⟨b, off, none⟩ ∧ w.cell? ⟨b, off + j, none⟩ = some (.int k xs[j]) := by
  obtain ⟨p', cap', hv, _, _, _, h⟩ := h.slice
  simp only [Value.slice.injEq] at hv
  obtain ⟨rfl, _, _⟩ := hv
  exact h j hj

theorem below_cells {w w' : World} (hb : Below w.heap.size w w') {a : Addr} {v : Value} (h : w.cell? a = some v) : w'.cell? a = some v := by
  rw [hb.cell (lt_of_cell h)]; exact h

/-- the world but for draws -/
def Drawn (w w' : World) : Prop := ∃ n, w' = w.drewN n
theorem Drawn.refl (w : World) : Drawn w w := ⟨0, rfl⟩
theorem Drawn.drewN {w w' : World} (h : Drawn w w') (m : Nat) : Drawn w (w'.drewN m) := by
  obtain ⟨n, rfl⟩ := h; exact ⟨n + m, by simp⟩
theorem Drawn.below {w w' : World} (h : Drawn w w') : Below w.heap.size w w' := by
  obtain ⟨n, rfl⟩ := h; exact below_drewN (Below.refl _ _) n

theorem sw {P : Program} {f : FuncId} {args : Array Value} {w : World} {v : Value} (h : Calls P f args w fun e w' => e = .returned v ∧ w = w') :
    Calls P f args w fun e w' => e = .returned v ∧ w' = w := h.mono fun _ _ ⟨a, b⟩ => ⟨a, b.symm⟩

theorem ret_eq {a b : Value} (h : a = b) : Ending.returned a = .returned b := by rw [h]
theorem ret_int {k : IntKind} {a b : Int} (h : a = b) : Ending.returned (.int k a) = .returned (.int k b) := by rw [h]
theorem ret_bool {a b : Bool} (h : a = b) : Ending.returned (.bool a) = .returned (.bool b) := by rw [h]
theorem ret_ii {k k' : IntKind} {a b c d : Int} (h : a = c) (h' : b = d) : Ending.returned (.tuple #[.int k a, .int k' b]) = .returned (.tuple #[.int k c, .int k' d]) := by rw [h, h']
theorem ret_two {a b c d : Value} (h : a = c) (h' : b = d) : Ending.returned (.tuple #[a, b]) = .returned (.tuple #[c, d]) := by rw [h, h']

end Go.Proofs.Ytfjhipaoljnfaaa
