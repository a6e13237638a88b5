/-
  disk: literals; the document's example, part 1.
-/
import Derived.Test.YtdcgooleiefljaaJ19
import Derived.Test.YtdcgooleiefljaaJ20
namespace Go.Proofs.Ytdcgooleiefljaa
open Go.RowKit Go.ChangeMaps Go.Shelf

theorem lit_reads {W : World} {b : Nat} {us : List Value} {T : TypeId} {fr : Nat × Nat} (h : W.heap[b]? = some (.cells us.toArray T fr)) (hn : us.length ≤ 1000000) : Reads W (.slice (some ⟨b, 0, none⟩) us.length us.length) 1 us.length us :=
  ⟨by simp, _, _, rfl, Nat.le_refl _, by omega, by simp, fun j u hj => ⟨b, 0, rfl, by simp only [World.cell?, h, Nat.zero_add]; simpa using hj⟩⟩

theorem lit_bytes {W : World} {b : Nat} {l : List UInt8} {T : TypeId} {fr : Nat × Nat} (h : W.heap[b]? = some (.cells (l.map encB).toArray T fr)) : Lib.HoldsBytes W (.slice (some ⟨b, 0, none⟩) l.length l.length) l :=
  ⟨_, _, rfl, by simp, fun a ha i x hi => by
    cases ha
    rw [Addr.add_lit]
    simp only [World.cell?, h, Nat.zero_add]
    simp [hi, encB]⟩

theorem right_a : rightZ [97] = true := by kernel_rfl
theorem right_b : rightZ [98] = true := by kernel_rfl

theorem heap2 (w : World) (a b : Obj) : ((w.alloc a).alloc b).heap[w.heap.size]? = some a ∧ ((w.alloc a).alloc b).heap[w.heap.size + 1]? = some b := by
  refine ⟨?_, ?_⟩
  · rw [heap_alloc_old _ _ (by simp)]; exact heap_alloc_new _ _
  · have := heap_alloc_new (w.alloc a) b
    rwa [World.size_alloc] at this

theorem heap3 (w : World) (a b c : Obj) : (((w.alloc a).alloc b).alloc c).heap[w.heap.size]? = some a ∧ (((w.alloc a).alloc b).alloc c).heap[w.heap.size + 1]? = some b ∧ (((w.alloc a).alloc b).alloc c).heap[w.heap.size + 2]? = some c := by
  obtain ⟨h1, h2⟩ := heap2 w a b
  refine ⟨?_, ?_, ?_⟩
  · rw [heap_alloc_old _ _ (by simp; omega)]; exact h1
  · rw [heap_alloc_old _ _ (by simp)]; exact h2
  · have := heap_alloc_new ((w.alloc a).alloc b) c
    rwa [World.size_alloc, World.size_alloc] at this

theorem spend_free : spendZ (-1) false = (true, -1, false) := by decide

end Go.Proofs.Ytdcgooleiefljaa
