/-
  An argument that is a slice of slices of hits.
-/
import Derived.Test.YtfjhipaoljnfaaaHitsArg
import Derived.Test.YtfjhipaoljnfaaaBestR
namespace Go.Proofs.Ytfjhipaoljnfaaa
open Go.ChangeShapes Go.WideShapes Go.ChangeAt Go.RowKit Go.Deep

section
variable {H : Type} {enc : TypeId × Value → H} {W : World}

theorem cells_one {a : Addr} {cs : List Value} (h : W.cells? 0 a 1 = some cs) : ∃ c0, cs = [c0] ∧ W.cell? (a.add 0) = some c0 := by
  unfold World.cells? at h
  simp only [Nat.zero_le, if_true, List.range_succ, List.range_zero, List.nil_append, List.mapM_cons, List.mapM_nil] at h
  cases h0 : W.cell? (a.add 0) with
  | none => rw [h0] at h; simp at h
  | some c0 =>
    rw [h0] at h
    simp at h
    exact ⟨c0, h.symm, rfl⟩

/-- an argument that is a slice of slices of hits -/
theorem open_lists {base : Nat} {v : Value} {d : DataW H} {ps : List MemPlace}
    (hok : Value.okWide Try.prog W .any base 38 v) (h : DataW.Trod enc Try.prog W 0 (fun _ => true) true 38 v d ps) :
    ∃ ls, ListsF W (fun _ => True) v ls ∧ ∀ ms ∈ ls, ∀ r ∈ ms, r.Fits := by
  obtain ⟨a0, len0, cap0, rfl⟩ := okWide_slice Try.underlying38 hok
  obtain ⟨fuel, hf⟩ := h
  have hce : Try.prog.cellsOf 22 = 1 := by kernel_rfl
  rcases open_slice Try.underlying38 hf with ⟨hcs, _⟩ | ⟨a, len, cap, m, n, D, Pl, hcs, _, hl, hm, hmm, _, hel⟩
  · simp [Value.cells] at hcs
    obtain ⟨rfl, rfl, rfl⟩ := hcs
    exact ⟨[], ⟨none, 0, rfl, by simp, by simp, by simp, fun i hi => absurd hi (by simp)⟩, by simp⟩
  · simp only [if_true] at hmm
    subst hmm
    rw [hce] at hel
    have each : ∀ i, i < len → ∃ l : List Hz, ∃ u, W.cell? (a.add (i * 1)) = some u ∧ HitsF W (fun _ => True) u l ∧ ∀ r ∈ l, r.Fits := by
      intro i hi
      obtain ⟨cs', hcs', htr⟩ := hel i (by omega)
      obtain ⟨c0, rfl, g0⟩ := cells_one hcs'
      obtain ⟨v, l, hc, hr⟩ := hits_of_trod Try.underlying22 Try.underlying35 (by kernel_rfl) ⟨rfl, rfl⟩ Try.underlying23 (by kernel_rfl) ⟨rfl, rfl⟩ Try.underlying23 (by kernel_rfl) ⟨rfl, rfl⟩ Try.underlying33 (by kernel_rfl) Try.underlying21 (by kernel_rfl) htr
      simp at hc
      subst hc
      rw [add_add] at g0
      exact ⟨l, _, by simpa using g0, hr.1, hr.2⟩
    obtain ⟨ls, hll, hp⟩ := exists_list len each
    simp [Value.cells] at hcs
    obtain ⟨rfl, rfl, rfl⟩ := hcs
    refine ⟨ls, ⟨some a, cap0, by rw [hll], by omega, by simpa [maxLen] using hm, by simp, fun i hi => ?_⟩, fun ms hms => ?_⟩
    · obtain ⟨u, g0, hr, _⟩ := hp i hi
      have h00 := (hp 0 (by omega)).choose_spec.1
      obtain ⟨b, off, spot⟩ := a
      obtain rfl : spot = none := by
        simpa [Addr.add] using World.cell?_spot h00
      rw [Addr.add_lit, Nat.mul_one] at g0
      exact ⟨b, off, u, rfl, trivial, g0, hr⟩
    · obtain ⟨i, hi, rfl⟩ := List.mem_iff_getElem.1 hms
      exact (hp i hi).choose_spec.2.2

end

end Go.Proofs.Ytfjhipaoljnfaaa
