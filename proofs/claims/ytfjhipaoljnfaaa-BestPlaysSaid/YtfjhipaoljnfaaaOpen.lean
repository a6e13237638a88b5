/-
  How arguments with depth read: slices of numbers inside structs, slices of pairs.
-/
import Derived.Test.YtfjhipaoljnfaaaClose
import Derived.Test.YtfjhipaoljnfaaaRecs
import Derived.Deep.Slices
namespace Go.Proofs.Ytfjhipaoljnfaaa
open Go.ChangeShapes Go.WideShapes Go.ChangeAt Go.RowKit Go.Deep

theorem exists_list {α : Type} (n : Nat) {p : Nat → α → Prop} (h : ∀ i, i < n → ∃ x, p i x) : ∃ l : List α, l.length = n ∧ ∀ i (hi : i < l.length), p i l[i] := by
  induction n with
  | zero => exact ⟨[], rfl, fun i hi => absurd hi (by simp)⟩
  | succ n ih =>
    obtain ⟨l, hl, hp⟩ := ih fun i hi => h i (by omega)
    obtain ⟨x, hx⟩ := h n (by omega)
    refine ⟨l ++ [x], by simp [hl], fun i hi => ?_⟩
    simp only [List.length_append, List.length_cons, List.length_nil] at hi
    rcases Nat.lt_or_ge i l.length with h1 | h1
    · rw [List.getElem_append_left h1]; exact hp i h1
    · have e : i = n := by omega
      subst e
      rw [List.getElem_append_right (by omega)]
      simp [hl, hx]

section
variable {H : Type} {enc : TypeId × Value → H} {W : World}

/-- a slice of numbers, wherever it is met -/
theorem nums_of_trod {t e : TypeId} {k : IntKind} {fuel : Nat} {cs : List Value} {x : DataW H × List MemPlace}
    (ht : Try.prog.underlying t = some (.slice e)) (he : Try.prog.underlying e = some (.int k)) (hc : Try.prog.cellsOf e = 1)
    (hf : DataW.trod enc Try.prog W 0 (fun _ => true) true fuel t cs = some x) : ∃ v xs, cs = [v] ∧ Nums W k v xs ∧ ∀ x ∈ xs, (Lit.int k x).wf = true := by
  rcases open_ints ht he hc hf with ⟨hcs, hx⟩ | ⟨a, len', cap', zs, hcs, _, hl, hm, hz, hx, hcell, hwz⟩
  · exact ⟨_, [], hcs, Nums.mk (xs := []) (by simp) (by simp) (by simp) (by simp), by simp⟩
  · simp only [if_true] at hz
    have hlen : (zs.take len').length = len' := by simp; omega
    refine ⟨_, zs.take len', hcs, ?_, fun x hx => hwz x (List.mem_of_mem_take hx)⟩
    have key : Nums W k (.slice (some a) (zs.take len').length cap') (zs.take len') := by
      refine Nums.mk (by omega) (by simpa [maxLen] using hm) (by simp) fun i hi => ?_
      have hi' : i < zs.length := by omega
      have := hcell i hi'
      obtain ⟨b, off, spot⟩ := a
      obtain rfl : spot = none := by
        simpa [Addr.add] using World.cell?_spot (hcell 0 (by omega))
      rw [Addr.add_lit] at this
      refine ⟨b, off, rfl, ?_⟩
      rw [this]
      simp [List.getD, List.getElem?_eq_getElem hi']
    rw [hlen] at key
    exact key

theorem cells_two {a : Addr} {cs : List Value} (h : W.cells? 0 a 2 = some cs) : ∃ c0 c1, cs = [c0, c1] ∧ W.cell? (a.add 0) = some c0 ∧ W.cell? (a.add 1) = some c1 := by
  unfold World.cells? at h
  simp only [Nat.zero_le, if_true, List.range_succ, List.range_zero, List.nil_append, List.cons_append, List.mapM_cons, List.mapM_nil] at h
  cases h0 : W.cell? (a.add 0) with
  | none => rw [h0] at h; simp at h
  | some c0 =>
    cases h1 : W.cell? (a.add 1) with
    | none => rw [h0, h1] at h; simp at h
    | some c1 =>
      rw [h0, h1] at h
      simp at h
      exact ⟨c0, c1, h.symm, rfl, rfl⟩

/-- a slice of pairs: a number and a slice of numbers each -/
theorem recs_of_trod {t e e0 e1 e2 : TypeId} {f0 f1 : Field} {fuel : Nat} {cs : List Value} {x : DataW H × List MemPlace}
    (ht : Try.prog.underlying t = some (.slice e)) (he : Try.prog.underlying e = some (.struct #[f0, f1])) (hce : Try.prog.cellsOf e = 2)
    (h0 : f0.type = e0 ∧ f0.offset = 0) (hu0 : Try.prog.underlying e0 = some (.int .u64)) (hc0 : Try.prog.cellsOf e0 = 1)
    (h1 : f1.type = e1 ∧ f1.offset = 1) (hu1 : Try.prog.underlying e1 = some (.slice e2)) (hc1 : Try.prog.cellsOf e1 = 1) (hu2 : Try.prog.underlying e2 = some (.int .i32)) (hc2 : Try.prog.cellsOf e2 = 1)
    (hf : DataW.trod enc Try.prog W 0 (fun _ => true) true fuel t cs = some x) :
    ∃ v l, cs = [v] ∧ Recs W v l ∧ ∀ r ∈ l, (Lit.int .u64 r.1).wf = true ∧ ∀ y ∈ r.2, (Lit.int .i32 y).wf = true := by
  rcases open_slice ht hf with ⟨hcs, _⟩ | ⟨a, len, cap, m, n, D, Pl, hcs, _, hl, hm, hmm, _, hel⟩
  · exact ⟨_, [], hcs, ⟨none, 0, rfl, by simp, by simp, by simp, fun i hi => absurd hi (by simp)⟩, by simp⟩
  · simp only [if_true] at hmm
    subst hmm
    rw [hce] at hel
    have each : ∀ i, i < len → ∃ r : Int × List Int, ∃ u, W.cell? (a.add (i * 2)) = some (.int .u64 r.1) ∧ W.cell? (a.add (i * 2 + 1)) = some u ∧ Nums W .i32 u r.2 ∧ (Lit.int .u64 r.1).wf = true ∧ ∀ y ∈ r.2, (Lit.int .i32 y).wf = true := by
      intro i hi
      obtain ⟨cs', hcs', htr⟩ := hel i (by omega)
      obtain ⟨c0, c1, rfl, g0, g1⟩ := cells_two hcs'
      obtain ⟨y0, y1, n', _, _, t0, t1⟩ := trod_struct2 he htr
      rw [h0.1, h0.2, hc0] at t0
      rw [h1.1, h1.2, hc1] at t1
      obtain ⟨id, e0', _, w0⟩ := DataW.trod_int hu0 t0
      obtain ⟨u, xs, e1', hn, wx⟩ := nums_of_trod hu1 hu2 hc2 t1
      simp at e0' e1'
      subst e0' e1'
      rw [add_add] at g0 g1
      exact ⟨(id, xs), c1, by simpa using g0, g1, hn, w0, wx⟩
    obtain ⟨l, hll, hp⟩ := exists_list len each
    refine ⟨_, l, hcs, ⟨some a, m, by rw [hll], by omega, by simpa [maxLen] using hm, by simp, fun i hi => ?_⟩, fun r hr => ?_⟩
    · obtain ⟨u, g0, g1, hn, _⟩ := hp i hi
      have h00 := (hp 0 (by omega)).choose_spec.1
      obtain ⟨b, off, spot⟩ := a
      obtain rfl : spot = none := by
        simpa [Addr.add] using World.cell?_spot h00
      rw [Addr.add_lit] at g0 g1
      exact ⟨b, off, u, rfl, g0, by rw [Nat.add_assoc]; exact g1, hn⟩
    · obtain ⟨i, hi, rfl⟩ := List.mem_iff_getElem.1 hr
      obtain ⟨u, _, _, _, w0, wx⟩ := hp i hi
      exact ⟨w0, wx⟩

end

end Go.Proofs.Ytfjhipaoljnfaaa
