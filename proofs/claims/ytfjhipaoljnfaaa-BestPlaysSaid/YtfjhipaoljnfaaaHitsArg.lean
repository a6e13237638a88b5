/-
  An argument that is a slice of hits.
-/
import Derived.Test.YtfjhipaoljnfaaaOpen
import Derived.Test.YtfjhipaoljnfaaaHits
import Derived.Deep.Strs
namespace Go.Proofs.Ytfjhipaoljnfaaa
open Go.ChangeShapes Go.WideShapes Go.ChangeAt Go.RowKit Go.Deep

def Hz.Fits (h : Hz) : Prop := 0 ≤ h.id ∧ h.id ≤ 18446744073709551615 ∧ 0 ≤ h.dist ∧ h.dist ≤ 18446744073709551615 ∧ ∀ x ∈ h.vec, -2147483648 ≤ x ∧ x ≤ 2147483647

section
variable {H : Type} {enc : TypeId × Value → H} {W : World}

theorem cells_three {a : Addr} {cs : List Value} (h : W.cells? 0 a 3 = some cs) : ∃ c0 c1 c2, cs = [c0, c1, c2] ∧ W.cell? (a.add 0) = some c0 ∧ W.cell? (a.add 1) = some c1 ∧ W.cell? (a.add 2) = some c2 := by
  unfold World.cells? at h
  simp only [Nat.zero_le, if_true, List.range_succ, List.range_zero, List.nil_append, List.cons_append, List.mapM_cons, List.mapM_nil] at h
  cases h0 : W.cell? (a.add 0) with
  | none => rw [h0] at h; simp at h
  | some c0 =>
    cases h1 : W.cell? (a.add 1) with
    | none => rw [h0, h1] at h; simp at h
    | some c1 =>
      cases h2 : W.cell? (a.add 2) with
      | none => rw [h0, h1, h2] at h; simp at h
      | some c2 =>
        rw [h0, h1, h2] at h
        simp at h
        exact ⟨c0, c1, c2, h.symm, rfl, rfl, rfl⟩

theorem hits_of_trod {t e e0 e1 e2 e4 : TypeId} {f0 f1 f2 : Field} {fuel : Nat} {cs : List Value} {x : DataW H × List MemPlace}
    (ht : Try.prog.underlying t = some (.slice e)) (he : Try.prog.underlying e = some (.struct #[f0, f1, f2])) (hce : Try.prog.cellsOf e = 3)
    (h0 : f0.type = e0 ∧ f0.offset = 0) (hu0 : Try.prog.underlying e0 = some (.int .u64)) (hc0 : Try.prog.cellsOf e0 = 1)
    (h1 : f1.type = e1 ∧ f1.offset = 1) (hu1 : Try.prog.underlying e1 = some (.int .u64)) (hc1 : Try.prog.cellsOf e1 = 1)
    (h2 : f2.type = e2 ∧ f2.offset = 2) (hu2 : Try.prog.underlying e2 = some (.slice e4)) (hc2 : Try.prog.cellsOf e2 = 1) (hu4 : Try.prog.underlying e4 = some (.int .i32)) (hc4 : Try.prog.cellsOf e4 = 1)
    (hf : DataW.trod enc Try.prog W 0 (fun _ => true) true fuel t cs = some x) :
    ∃ v l, cs = [v] ∧ HitsF W (fun _ => True) v l ∧ ∀ r ∈ l, r.Fits := by
  rcases open_slice ht hf with ⟨hcs, _⟩ | ⟨a, len, cap, m, n, D, Pl, hcs, _, hl, hm, hmm, _, hel⟩
  · exact ⟨_, [], hcs, ⟨none, 0, rfl, by simp, by simp, by simp, fun i hi => absurd hi (by simp)⟩, by simp⟩
  · simp only [if_true] at hmm
    subst hmm
    rw [hce] at hel
    have each : ∀ i, i < len → ∃ r : Hz, ∃ u, W.cell? (a.add (i * 3)) = some (.int .u64 r.id) ∧ W.cell? (a.add (i * 3 + 1)) = some (.int .u64 r.dist) ∧ W.cell? (a.add (i * 3 + 2)) = some u ∧ Nums W .i32 u r.vec ∧ r.Fits := by
      intro i hi
      obtain ⟨cs', hcs', htr⟩ := hel i (by omega)
      obtain ⟨c0, c1, c2, rfl, g0, g1, g2⟩ := cells_three hcs'
      obtain ⟨y0, y1, y2, n', _, _, t0, t1, t2⟩ := trod_struct3 he htr
      rw [h0.1, h0.2, hc0] at t0
      rw [h1.1, h1.2, hc1] at t1
      rw [h2.1, h2.2, hc2] at t2
      obtain ⟨z0, q0, _, w0⟩ := DataW.trod_int hu0 t0
      obtain ⟨z1, q1, _, w1⟩ := DataW.trod_int hu1 t1
      obtain ⟨u, xs, q2, hn, wx⟩ := nums_of_trod hu2 hu4 hc4 t2
      simp at q0 q1 q2
      subst q0 q1 q2
      rw [add_add] at g0 g1 g2
      simp [Lit.wf, IntKind.min, IntKind.max, IntKind.signed, IntKind.bits] at w0 w1 wx
      exact ⟨⟨z0, z1, xs⟩, c2, by simpa using g0, g1, g2, hn, w0.1, w0.2, w1.1, w1.2, wx⟩
    obtain ⟨l, hll, hp⟩ := exists_list len each
    refine ⟨_, l, hcs, ⟨some a, m, by rw [hll], by omega, by simpa [maxLen] using hm, by simp, fun i hi => ?_⟩, fun r hr => ?_⟩
    · obtain ⟨u, g0, g1, g2, hn, _⟩ := hp i hi
      have h00 := (hp 0 (by omega)).choose_spec.1
      obtain ⟨b, off, spot⟩ := a
      obtain rfl : spot = none := by
        simpa [Addr.add] using World.cell?_spot h00
      rw [Addr.add_lit] at g0 g1 g2
      exact ⟨b, off, u, rfl, trivial, g0, by rw [Nat.add_assoc]; exact g1, by rw [Nat.add_assoc, Nat.add_assoc]; exact g2, hn, fun _ _ _ => trivial⟩
    · obtain ⟨i, hi, rfl⟩ := List.mem_iff_getElem.1 hr
      exact (hp i hi).choose_spec.2.2.2.2

/-- an argument that is a slice of hits -/
theorem open_hits {base : Nat} {v : Value} {d : DataW H} {ps : List MemPlace}
    (hok : Value.okWide Try.prog W .any base 22 v) (h : DataW.Trod enc Try.prog W 0 (fun _ => true) true 22 v d ps) :
    ∃ l, HitsF W (fun _ => True) v l ∧ ∀ r ∈ l, r.Fits := by
  obtain ⟨a0, len, cap, rfl⟩ := okWide_slice Try.underlying22 hok
  obtain ⟨fuel, hf⟩ := h
  obtain ⟨v, l, hcs, hr⟩ := hits_of_trod Try.underlying22 Try.underlying35 (by kernel_rfl) ⟨rfl, rfl⟩ Try.underlying23 (by kernel_rfl) ⟨rfl, rfl⟩ Try.underlying23 (by kernel_rfl) ⟨rfl, rfl⟩ Try.underlying33 (by kernel_rfl) Try.underlying21 (by kernel_rfl) hf
  simp [Value.cells] at hcs
  subst hcs
  exact ⟨l, hr⟩

end

end Go.Proofs.Ytfjhipaoljnfaaa
