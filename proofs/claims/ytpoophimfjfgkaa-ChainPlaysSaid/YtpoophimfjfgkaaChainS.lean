/-
  chain's law: a script is read.
-/
import Derived.Test.YtpoophimfjfgkaaOpen
import Derived.Lib.SmallJoins
namespace Go.Proofs.Ytpoophimfjfgkaa
open Go.ChangeShapes Go.WideShapes Go.ChangeAt Go.RowKit Go.Deep

/-- one call of a script -/
structure OpZ where
  act : Int
  stamp : Int
  vec : List Int
  ask : Int

def OpZ.Fits (o : OpZ) : Prop := 0 ≤ o.act ∧ o.act ≤ 255 ∧ 0 ≤ o.stamp ∧ o.stamp ≤ 18446744073709551615 ∧ 0 ≤ o.ask ∧ o.ask ≤ 18446744073709551615 ∧ ∀ x ∈ o.vec, -2147483648 ≤ x ∧ x ≤ 2147483647

/-- a slice of calls reads so -/
def Script (w : World) (v : Value) (l : List OpZ) : Prop :=
  ∃ p cap, v = .slice p l.length cap ∧ l.length ≤ cap ∧ cap ≤ 9223372036854775807 ∧ (p = none → cap = 0) ∧
    ∀ i (hi : i < l.length), ∃ b off u, p = some ⟨b, off, none⟩ ∧ w.cell? ⟨b, off + i * 4, none⟩ = some (.int .u8 l[i].act) ∧ w.cell? ⟨b, off + i * 4 + 1, none⟩ = some (.int .u64 l[i].stamp) ∧ w.cell? ⟨b, off + i * 4 + 1 + 1, none⟩ = some u ∧
      w.cell? ⟨b, off + i * 4 + 1 + 1 + 1, none⟩ = some (.int .u64 l[i].ask) ∧ Nums w .i32 u l[i].vec

theorem Script.below {w w' : World} {v : Value} {l : List OpZ} (h : Script w v l) (hb : Below w.heap.size w w') : Script w' v l := by
  obtain ⟨p, cap, hv, h1, h2, h3, h4⟩ := h
  refine ⟨p, cap, hv, h1, h2, h3, fun i hi => ?_⟩
  obtain ⟨b, off, u, hp, c0, c1, c2, c3, hn⟩ := h4 i hi
  exact ⟨b, off, u, hp, below_cells hb c0, below_cells hb c1, below_cells hb c2, below_cells hb c3, hn.below hb⟩

theorem Script.elem {w : World} {p : Option Addr} {n cap : Nat} {l : List OpZ} (h : Script w (.slice p n cap) l) {i : Nat} (hi : i < l.length) :
    ∃ b off u, p = some ⟨b, off, none⟩ ∧ w.cell? ⟨b, off + i * 4, none⟩ = some (.int .u8 l[i].act) ∧ w.cell? ⟨b, off + i * 4 + 1, none⟩ = some (.int .u64 l[i].stamp) ∧ w.cell? ⟨b, off + i * 4 + 1 + 1, none⟩ = some u ∧
      w.cell? ⟨b, off + i * 4 + 1 + 1 + 1, none⟩ = some (.int .u64 l[i].ask) ∧ Nums w .i32 u l[i].vec := by
  obtain ⟨p', cap', hv, _, _, _, h⟩ := h
  simp only [Value.slice.injEq] at hv
  obtain ⟨rfl, _, _⟩ := hv
  exact h i hi

section
variable {H : Type} {enc : TypeId × Value → H} {W : World}

theorem cells_four {a : Addr} {cs : List Value} (h : W.cells? 0 a 4 = some cs) : ∃ c0 c1 c2 c3, cs = [c0, c1, c2, c3] ∧ W.cell? (a.add 0) = some c0 ∧ W.cell? (a.add 1) = some c1 ∧ W.cell? (a.add 2) = some c2 ∧ W.cell? (a.add 3) = some c3 := by
  unfold World.cells? at h
  simp only [Nat.zero_le, if_true, List.range_succ, List.range_zero, List.nil_append, List.cons_append, List.mapM_cons, List.mapM_nil] at h
  cases h0 : W.cell? (a.add 0) with
  | none => rw [h0] at h; simp at h
  | some c0 =>
    cases h1 : W.cell? (a.add 1) with
    | none => rw [h0, h1] at h; simp at h
    | some c1 =>
      cases h2 : W.cell? (a.add 2) with
      | none => rw [h0, h1, h2] at h; simp at h
      | some c2 =>
        cases h3 : W.cell? (a.add 3) with
        | none => rw [h0, h1, h2, h3] at h; simp at h
        | some c3 =>
          rw [h0, h1, h2, h3] at h
          simp at h
          exact ⟨c0, c1, c2, c3, h.symm, rfl, rfl, rfl, rfl⟩

theorem script_of_trod {t e e0 e1 e2 e3 e4 : TypeId} {f0 f1 f2 f3 : Field} {fuel : Nat} {cs : List Value} {x : DataW H × List MemPlace}
    (ht : Try.prog.underlying t = some (.slice e)) (he : Try.prog.underlying e = some (.struct #[f0, f1, f2, f3])) (hce : Try.prog.cellsOf e = 4)
    (h0 : f0.type = e0 ∧ f0.offset = 0) (hu0 : Try.prog.underlying e0 = some (.int .u8)) (hc0 : Try.prog.cellsOf e0 = 1)
    (h1 : f1.type = e1 ∧ f1.offset = 1) (hu1 : Try.prog.underlying e1 = some (.int .u64)) (hc1 : Try.prog.cellsOf e1 = 1)
    (h2 : f2.type = e2 ∧ f2.offset = 2) (hu2 : Try.prog.underlying e2 = some (.slice e4)) (hc2 : Try.prog.cellsOf e2 = 1) (hu4 : Try.prog.underlying e4 = some (.int .i32)) (hc4 : Try.prog.cellsOf e4 = 1)
    (h3 : f3.type = e3 ∧ f3.offset = 3) (hu3 : Try.prog.underlying e3 = some (.int .u64)) (hc3 : Try.prog.cellsOf e3 = 1)
    (hf : DataW.trod enc Try.prog W 0 (fun _ => true) true fuel t cs = some x) :
    ∃ v l, cs = [v] ∧ Script W v l ∧ ∀ r ∈ l, r.Fits := by
  rcases open_slice ht hf with ⟨hcs, _⟩ | ⟨a, len, cap, m, n, D, Pl, hcs, _, hl, hm, hmm, _, hel⟩
  · exact ⟨_, [], hcs, ⟨none, 0, rfl, by simp, by simp, by simp, fun i hi => absurd hi (by simp)⟩, by simp⟩
  · simp only [if_true] at hmm
    subst hmm
    rw [hce] at hel
    have each : ∀ i, i < len → ∃ r : OpZ, ∃ u, W.cell? (a.add (i * 4)) = some (.int .u8 r.act) ∧ W.cell? (a.add (i * 4 + 1)) = some (.int .u64 r.stamp) ∧ W.cell? (a.add (i * 4 + 2)) = some u ∧ W.cell? (a.add (i * 4 + 3)) = some (.int .u64 r.ask) ∧ Nums W .i32 u r.vec ∧ r.Fits := by
      intro i hi
      obtain ⟨cs', hcs', htr⟩ := hel i (by omega)
      obtain ⟨c0, c1, c2, c3, rfl, g0, g1, g2, g3⟩ := cells_four hcs'
      obtain ⟨y0, y1, y2, y3, n', _, _, t0, t1, t2, t3⟩ := Joins.trod_struct4 he htr
      rw [h0.1, h0.2, hc0] at t0
      rw [h1.1, h1.2, hc1] at t1
      rw [h2.1, h2.2, hc2] at t2
      rw [h3.1, h3.2, hc3] at t3
      obtain ⟨z0, q0, _, w0⟩ := DataW.trod_int hu0 t0
      obtain ⟨z1, q1, _, w1⟩ := DataW.trod_int hu1 t1
      obtain ⟨u, xs, q2, hn, wx⟩ := nums_of_trod hu2 hu4 hc4 t2
      obtain ⟨z3, q3, _, w3⟩ := DataW.trod_int hu3 t3
      simp at q0 q1 q2 q3
      subst q0 q1 q2 q3
      rw [add_add] at g0 g1 g2 g3
      simp [Lit.wf, IntKind.min, IntKind.max, IntKind.signed, IntKind.bits] at w0 w1 w3 wx
      exact ⟨⟨z0, z1, xs, z3⟩, c2, by simpa using g0, g1, g2, g3, hn, w0.1, w0.2, w1.1, w1.2, w3.1, w3.2, wx⟩
    obtain ⟨l, hll, hp⟩ := exists_list len each
    refine ⟨_, l, hcs, ⟨some a, m, by rw [hll], by omega, by simpa [maxLen] using hm, by simp, fun i hi => ?_⟩, fun r hr => ?_⟩
    · obtain ⟨u, g0, g1, g2, g3, hn, _⟩ := hp i hi
      have h00 := (hp 0 (by omega)).choose_spec.1
      obtain ⟨b, off, spot⟩ := a
      obtain rfl : spot = none := by
        simpa [Addr.add] using World.cell?_spot h00
      rw [Addr.add_lit] at g0 g1 g2 g3
      exact ⟨b, off, u, rfl, g0, by rw [Nat.add_assoc]; exact g1, by rw [Nat.add_assoc, Nat.add_assoc]; exact g2, by rw [Nat.add_assoc, Nat.add_assoc, Nat.add_assoc]; exact g3, hn⟩
    · obtain ⟨i, hi, rfl⟩ := List.mem_iff_getElem.1 hr
      exact (hp i hi).choose_spec.2.2.2.2.2

/-- an argument that is a script -/
theorem open_script {base : Nat} {v : Value} {d : DataW H} {ps : List MemPlace}
    (hok : Value.okWide Try.prog W .any base 22 v) (h : DataW.Trod enc Try.prog W 0 (fun _ => true) true 22 v d ps) :
    ∃ l, Script W v l ∧ ∀ r ∈ l, r.Fits := by
  obtain ⟨a0, len, cap, rfl⟩ := okWide_slice Try.underlying22 hok
  obtain ⟨fuel, hf⟩ := h
  obtain ⟨v, l, hcs, hr⟩ := script_of_trod Try.underlying22 Try.underlying32 (by kernel_rfl) ⟨rfl, rfl⟩ Try.underlying5 (by kernel_rfl) ⟨rfl, rfl⟩ Try.underlying29 (by kernel_rfl) ⟨rfl, rfl⟩ Try.underlying30 (by kernel_rfl) Try.underlying21 (by kernel_rfl) ⟨rfl, rfl⟩ Try.underlying29 (by kernel_rfl) hf
  simp [Value.cells] at hcs
  subst hcs
  exact ⟨l, hr⟩

/-- an argument that is a slice of the document's versions -/
theorem open_vers {base : Nat} {v : Value} {d : DataW H} {ps : List MemPlace}
    (hok : Value.okWide Try.prog W .any base 28 v) (h : DataW.Trod enc Try.prog W 0 (fun _ => true) true 28 v d ps) :
    ∃ l, Recs W v l ∧ ∀ r ∈ l, 0 ≤ r.1 ∧ r.1 ≤ 18446744073709551615 := by
  obtain ⟨a0, len, cap, rfl⟩ := okWide_slice Try.underlying28 hok
  obtain ⟨fuel, hf⟩ := h
  obtain ⟨v, l, hcs, hr, hw⟩ := recs_of_trod Try.underlying28 Try.underlying44 (by kernel_rfl) ⟨rfl, rfl⟩ Try.underlying29 (by kernel_rfl) ⟨rfl, rfl⟩ Try.underlying30 (by kernel_rfl) Try.underlying21 (by kernel_rfl) hf
  simp [Value.cells] at hcs
  subst hcs
  refine ⟨l, hr, fun r hr => ?_⟩
  have w0 := (hw r hr).1
  simp [Lit.wf, IntKind.min, IntKind.max, IntKind.signed, IntKind.bits] at w0
  exact w0

end

end Go.Proofs.Ytpoophimfjfgkaa
