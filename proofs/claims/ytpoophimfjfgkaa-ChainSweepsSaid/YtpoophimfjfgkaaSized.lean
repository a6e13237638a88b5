/-
  An argument that is a slice of numbers, with what the form's reach says of its length.
-/
import Derived.Test.YtpoophimfjfgkaaClose
import Derived.SizedLaws
namespace Go.Proofs.Ytpoophimfjfgkaa
open Go.ChangeShapes Go.WideShapes Go.ChangeAt Go.RowKit

theorem open_nums_sized {H : Type} {enc : TypeId × Value → H} {W : World} {base t e bytes : Nat} {k : IntKind} {v : Value} {d : DataW H} {ps : List MemPlace} {ts : List TypeId} {ds : List (DataW H)} {j : Nat}
    (ht : Try.prog.underlying t = some (.slice e)) (he : Try.prog.underlying e = some (.int k)) (hc : Try.prog.cellsOf e = 1) (hb : Try.prog.bytesOf e = bytes)
    (hok : Value.okWide Try.prog W .any base t v) (h : DataW.Trod enc Try.prog W 0 (fun _ => true) true t v d ps)
    (hsz : (DataW.weightsEach Try.prog ts ds).all (· ≤ reachBytes) = true) (hts : ts[j]? = some t) (hds : ds[j]? = some d) :
    ∃ xs : List Int, Nums W k v xs ∧ (∀ x ∈ xs, (Lit.int k x).wf = true) ∧ xs.length * bytes ≤ 140737488351232 := by
  obtain ⟨a0, len, cap, rfl⟩ := okWide_slice ht hok
  obtain ⟨fuel, hf⟩ := h
  rcases open_ints ht he hc hf with ⟨hcs, hx⟩ | ⟨a, len', cap', zs, hcs, _, hl, hm, hz, hx, hcell, hwz⟩
  · simp [Value.cells] at hcs
    obtain ⟨rfl, rfl, rfl⟩ := hcs
    exact ⟨[], Nums.mk (xs := []) (by simp) (by simp) (by simp) (by simp), by simp, by simp⟩
  · simp [Value.cells] at hcs
    obtain ⟨rfl, rfl, rfl⟩ := hcs
    simp only [if_true] at hz
    have hlen : (zs.take len).length = len := by simp; omega
    refine ⟨zs.take len, ?_, fun x hx => hwz x (List.mem_of_mem_take hx), ?_⟩
    · have key : Nums W k (.slice (some a) (zs.take len).length cap) (zs.take len) := by
        refine Nums.mk (by omega) (by simpa [maxLen] using hm) (by simp) fun i hi => ?_
        have hi' : i < zs.length := by omega
        have := hcell i hi'
        obtain ⟨b, off, spot⟩ := a
        obtain rfl : spot = none := by
          simpa [Addr.add] using World.cell?_spot (hcell 0 (by omega))
        rw [Addr.add_lit] at this
        refine ⟨b, off, rfl, ?_⟩
        rw [this]
        simp [List.getD, List.getElem?_eq_getElem hi']
      rw [hlen] at key
      exact key
    · simp only [Prod.mk.injEq] at hx
      obtain ⟨rfl, _⟩ := hx
      have := sized_slice hsz hts hds ht
      rw [hb] at this
      simp only [lits, List.length_map, List.length_take, List.length_drop, reachBytes] at this
      have h2 : (zs.take len).length ≤ min len zs.length + (zs.length - len) := by simp only [List.length_take]; omega
      exact Nat.le_trans (Nat.mul_le_mul_right _ h2) this

end Go.Proofs.Ytpoophimfjfgkaa
