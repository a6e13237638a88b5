/-
  How arguments with depth read: slices of numbers inside structs, slices of pairs.
  An argument that is a script of calls on a graph.
  graph's laws: what a script does to both graphs.
-/
import Derived.Test.YtdbeekdnehojnaaJ35
import Derived.Test.YtdbeekdnehojnaaJ03
import Derived.Deep.Slices
import Derived.Deep.Strs
import Derived.Test.YtdbeekdnehojnaaJ34
namespace Go.Proofs.Ytdbeekdnehojnaa
open Go.ChangeShapes Go.WideShapes Go.ChangeAt Go.RowKit Go.Deep

theorem exists_list {α : Type} (n : Nat) {p : Nat → α → Prop} (h : ∀ i, i < n → ∃ x, p i x) : ∃ l : List α, l.length = n ∧ ∀ i (hi : i < l.length), p i l[i] := by
  induction n with
  | zero => exact ⟨[], rfl, fun i hi => absurd hi (by simp)⟩
  | succ n ih =>
    obtain ⟨l, hl, hp⟩ := ih fun i hi => h i (by omega)
    obtain ⟨x, hx⟩ := h n (by omega)
    refine ⟨l ++ [x], by simp [hl], fun i hi => ?_⟩
    simp only [List.length_append, List.length_cons, List.length_nil] at hi
    rcases Nat.lt_or_ge i l.length with h1 | h1
    · rw [List.getElem_append_left h1]; exact hp i h1
    · have e : i = n := by omega
      subst e
      rw [List.getElem_append_right (by omega)]
      simp [hl, hx]

section
variable {H : Type} {enc : TypeId × Value → H} {W : World}

/-- a slice of numbers, wherever it is met -/
theorem nums_of_trod {t e : TypeId} {k : IntKind} {fuel : Nat} {cs : List Value} {x : DataW H × List MemPlace}
    (ht : Try.prog.underlying t = some (.slice e)) (he : Try.prog.underlying e = some (.int k)) (hc : Try.prog.cellsOf e = 1)
    (hf : DataW.trod enc Try.prog W 0 (fun _ => true) true fuel t cs = some x) : ∃ v xs, cs = [v] ∧ Nums W k v xs ∧ ∀ x ∈ xs, (Lit.int k x).wf = true := by
  rcases open_ints ht he hc hf with ⟨hcs, hx⟩ | ⟨a, len', cap', zs, hcs, _, hl, hm, hz, hx, hcell, hwz⟩
  · exact ⟨_, [], hcs, Nums.mk (xs := []) (by simp) (by simp) (by simp) (by simp), by simp⟩
  · simp only [if_true] at hz
    have hlen : (zs.take len').length = len' := by simp; omega
    refine ⟨_, zs.take len', hcs, ?_, fun x hx => hwz x (List.mem_of_mem_take hx)⟩
    have key : Nums W k (.slice (some a) (zs.take len').length cap') (zs.take len') := by
      refine Nums.mk (by omega) (by simpa [maxLen] using hm) (by simp) fun i hi => ?_
      have hi' : i < zs.length := by omega
      have := hcell i hi'
      obtain ⟨b, off, spot⟩ := a
      obtain rfl : spot = none := by
        simpa [Addr.add] using World.cell?_spot (hcell 0 (by omega))
      rw [Addr.add_lit] at this
      refine ⟨b, off, rfl, ?_⟩
      rw [this]
      simp [List.getD, List.getElem?_eq_getElem hi']
    rw [hlen] at key
    exact key

theorem cells_two {a : Addr} {cs : List Value} (h : W.cells? 0 a 2 = some cs) : ∃ c0 c1, cs = [c0, c1] ∧ W.cell? (a.add 0) = some c0 ∧ W.cell? (a.add 1) = some c1 := by
  unfold World.cells? at h
  simp only [Nat.zero_le, if_true, List.range_succ, List.range_zero, List.nil_append, List.cons_append, List.mapM_cons, List.mapM_nil] at h
  cases h0 : W.cell? (a.add 0) with
  | none => rw [h0] at h; simp at h
  | some c0 =>
    cases h1 : W.cell? (a.add 1) with
    | none => rw [h0, h1] at h; simp at h
    | some c1 =>
      rw [h0, h1] at h
      simp at h
      exact ⟨c0, c1, h.symm, rfl, rfl⟩

/-- a slice of pairs: a number and a slice of numbers each -/
theorem recs_of_trod {t e e0 e1 e2 : TypeId} {f0 f1 : Field} {fuel : Nat} {cs : List Value} {x : DataW H × List MemPlace}
    (ht : Try.prog.underlying t = some (.slice e)) (he : Try.prog.underlying e = some (.struct #[f0, f1])) (hce : Try.prog.cellsOf e = 2)
    (h0 : f0.type = e0 ∧ f0.offset = 0) (hu0 : Try.prog.underlying e0 = some (.int .u64)) (hc0 : Try.prog.cellsOf e0 = 1)
    (h1 : f1.type = e1 ∧ f1.offset = 1) (hu1 : Try.prog.underlying e1 = some (.slice e2)) (hc1 : Try.prog.cellsOf e1 = 1) (hu2 : Try.prog.underlying e2 = some (.int .i32)) (hc2 : Try.prog.cellsOf e2 = 1)
    (hf : DataW.trod enc Try.prog W 0 (fun _ => true) true fuel t cs = some x) :
    ∃ v l, cs = [v] ∧ Recs W v l ∧ ∀ r ∈ l, (Lit.int .u64 r.1).wf = true ∧ ∀ y ∈ r.2, (Lit.int .i32 y).wf = true := by
  rcases open_slice ht hf with ⟨hcs, _⟩ | ⟨a, len, cap, m, n, D, Pl, hcs, _, hl, hm, hmm, _, hel⟩
  · exact ⟨_, [], hcs, ⟨none, 0, rfl, by simp, by simp, by simp, fun i hi => absurd hi (by simp)⟩, by simp⟩
  · simp only [if_true] at hmm
    subst hmm
    rw [hce] at hel
    have each : ∀ i, i < len → ∃ r : Int × List Int, ∃ u, W.cell? (a.add (i * 2)) = some (.int .u64 r.1) ∧ W.cell? (a.add (i * 2 + 1)) = some u ∧ Nums W .i32 u r.2 ∧ (Lit.int .u64 r.1).wf = true ∧ ∀ y ∈ r.2, (Lit.int .i32 y).wf = true := by
      intro i hi
      obtain ⟨cs', hcs', htr⟩ := hel i (by omega)
      obtain ⟨c0, c1, rfl, g0, g1⟩ := cells_two hcs'
      obtain ⟨y0, y1, n', _, _, t0, t1⟩ := trod_struct2 he htr
      rw [h0.1, h0.2, hc0] at t0
      rw [h1.1, h1.2, hc1] at t1
      obtain ⟨id, e0', _, w0⟩ := DataW.trod_int hu0 t0
      obtain ⟨u, xs, e1', hn, wx⟩ := nums_of_trod hu1 hu2 hc2 t1
      simp at e0' e1'
      subst e0' e1'
      rw [add_add] at g0 g1
      exact ⟨(id, xs), c1, by simpa using g0, g1, hn, w0, wx⟩
    obtain ⟨l, hll, hp⟩ := exists_list len each
    refine ⟨_, l, hcs, ⟨some a, m, by rw [hll], by omega, by simpa [maxLen] using hm, by simp, fun i hi => ?_⟩, fun r hr => ?_⟩
    · obtain ⟨u, g0, g1, hn, _⟩ := hp i hi
      have h00 := (hp 0 (by omega)).choose_spec.1
      obtain ⟨b, off, spot⟩ := a
      obtain rfl : spot = none := by
        simpa [Addr.add] using World.cell?_spot h00
      rw [Addr.add_lit] at g0 g1
      exact ⟨b, off, u, rfl, g0, by rw [Nat.add_assoc]; exact g1, hn⟩
    · obtain ⟨i, hi, rfl⟩ := List.mem_iff_getElem.1 hr
      obtain ⟨u, _, _, _, w0, wx⟩ := hp i hi
      exact ⟨w0, wx⟩

end

end Go.Proofs.Ytdbeekdnehojnaa

namespace Go.Proofs.Ytdbeekdnehojnaa
open Go.ChangeShapes Go.WideShapes Go.ChangeAt Go.RowKit Go.Deep

/-- a slice of calls (what to do; two numbers) reads so -/
def ScriptO (w : World) (v : Value) (l : List (Int × Int × Int)) : Prop :=
  ∃ p cap, v = .slice p l.length cap ∧ l.length ≤ cap ∧ cap ≤ 9223372036854775807 ∧
    ∀ i (hi : i < l.length), ∃ b off, p = some ⟨b, off, none⟩ ∧ w.cell? ⟨b, off + i * 3, none⟩ = some (.int .u8 l[i].1) ∧ w.cell? ⟨b, off + i * 3 + 1, none⟩ = some (.int .u64 l[i].2.1) ∧ w.cell? ⟨b, off + i * 3 + 2, none⟩ = some (.int .u64 l[i].2.2)

theorem ScriptO.below {w w' : World} {v : Value} {l : List (Int × Int × Int)} (h : ScriptO w v l) (hb : Below w.heap.size w w') : ScriptO w' v l := by
  obtain ⟨p, cap, hv, h1, h2, h3⟩ := h
  refine ⟨p, cap, hv, h1, h2, fun i hi => ?_⟩
  obtain ⟨b, off, hp, c0, c1, c2⟩ := h3 i hi
  exact ⟨b, off, hp, below_cells hb c0, below_cells hb c1, below_cells hb c2⟩

section
variable {H : Type} {enc : TypeId × Value → H} {W : World}

theorem cells_threeO {a : Addr} {cs : List Value} (h : W.cells? 0 a 3 = some cs) : ∃ c0 c1 c2, cs = [c0, c1, c2] ∧ W.cell? (a.add 0) = some c0 ∧ W.cell? (a.add 1) = some c1 ∧ W.cell? (a.add 2) = some c2 := by
  unfold World.cells? at h
  simp only [Nat.zero_le, if_true, List.range_succ, List.range_zero, List.nil_append, List.cons_append, List.mapM_cons, List.mapM_nil] at h
  cases h0 : W.cell? (a.add 0) with
  | none => rw [h0] at h; simp at h
  | some c0 =>
    cases h1 : W.cell? (a.add 1) with
    | none => rw [h0, h1] at h; simp at h
    | some c1 =>
      cases h2 : W.cell? (a.add 2) with
      | none => rw [h0, h1, h2] at h; simp at h
      | some c2 =>
        rw [h0, h1, h2] at h
        simp at h
        exact ⟨c0, c1, c2, h.symm, rfl, rfl, rfl⟩

/-- an argument that is a script -/
theorem open_scriptO {base : Nat} {v : Value} {d : DataW H} {ps : List MemPlace}
    (hok : Value.okWide Try.prog W .any base 22 v) (h : DataW.Trod enc Try.prog W 0 (fun _ => true) true 22 v d ps) :
    ∃ l, ScriptO W v l ∧ ∀ r ∈ l, 0 ≤ r.1 ∧ r.1 ≤ 255 := by
  obtain ⟨a0, len0, cap0, rfl⟩ := okWide_slice Try.underlying22 hok
  obtain ⟨fuel, hf⟩ := h
  have hce : Try.prog.cellsOf 33 = 3 := by kernel_rfl
  rcases open_slice Try.underlying22 hf with ⟨hcs, _⟩ | ⟨a, len, cap, m, n, D, Pl, hcs, _, hl, hm, hmm, _, hel⟩
  · simp [Value.cells] at hcs
    obtain ⟨rfl, rfl, rfl⟩ := hcs
    exact ⟨[], ⟨none, 0, rfl, by simp, by simp, fun i hi => absurd hi (by simp)⟩, by simp⟩
  · simp only [if_true] at hmm
    subst hmm
    rw [hce] at hel
    have each : ∀ i, i < len → ∃ r : Int × Int × Int, W.cell? (a.add (i * 3)) = some (.int .u8 r.1) ∧ W.cell? (a.add (i * 3 + 1)) = some (.int .u64 r.2.1) ∧ W.cell? (a.add (i * 3 + 2)) = some (.int .u64 r.2.2) ∧ 0 ≤ r.1 ∧ r.1 ≤ 255 := by
      intro i hi
      obtain ⟨cs', hcs', htr⟩ := hel i (by omega)
      obtain ⟨c0, c1, c2, rfl, g0, g1, g2⟩ := cells_threeO hcs'
      obtain ⟨y0, y1, y2, n', _, _, t0, t1, t2⟩ := trod_struct3 Try.underlying33 htr
      obtain ⟨z0, q0, _, w0⟩ := DataW.trod_int Try.underlying5 (by simpa [show Try.prog.cellsOf 5 = 1 by kernel_rfl] using t0)
      obtain ⟨z1, q1, _, w1⟩ := DataW.trod_int Try.underlying31 (by simpa [show Try.prog.cellsOf 31 = 1 by kernel_rfl] using t1)
      obtain ⟨z2, q2, _, w2⟩ := DataW.trod_int Try.underlying31 (by simpa [show Try.prog.cellsOf 31 = 1 by kernel_rfl] using t2)
      simp at q0 q1 q2
      subst q0 q1 q2
      rw [add_add] at g0 g1 g2
      simp [Lit.wf, IntKind.min, IntKind.max, IntKind.signed, IntKind.bits] at w0
      exact ⟨(z0, z1, z2), by simpa using g0, g1, g2, w0.1, w0.2⟩
    obtain ⟨l, hll, hp⟩ := exists_list len each
    simp [Value.cells] at hcs
    obtain ⟨rfl, rfl, rfl⟩ := hcs
    refine ⟨l, ⟨some a, cap0, by rw [hll], by omega, by simpa [maxLen] using hm, fun i hi => ?_⟩, fun r hr => ?_⟩
    · obtain ⟨g0, g1, g2, _⟩ := hp i hi
      have h00 := (hp 0 (by omega)).1
      obtain ⟨b, off, spot⟩ := a
      obtain rfl : spot = none := by
        simpa [Addr.add] using World.cell?_spot h00
      rw [Addr.add_lit] at g0 g1 g2
      exact ⟨b, off, rfl, g0, by rw [Nat.add_assoc]; exact g1, by rw [Nat.add_assoc]; exact g2⟩
    · obtain ⟨i, hi, rfl⟩ := List.mem_iff_getElem.1 hr
      obtain ⟨_, _, _, w0⟩ := hp i hi
      exact w0

end

end Go.Proofs.Ytdbeekdnehojnaa

namespace Go.Proofs.Ytdbeekdnehojnaa
open Go.RowKit Go.ChangeMaps

theorem doN_len (N : List Int) (a x : Int) : (doN N a x).length ≤ N.length + 1 := by
  unfold doN
  split
  · omega
  · split
    · omega
    · rw [putZ_length]; exact Nat.le_refl _

theorem bindD_len (N : List Int) (E : Eg) (x y : Int) : (bindD N E x y).2.length ≤ E.length + 1 := by
  unfold bindD
  split
  · simp
  · cases atE E x y with
    | none => simp
    | some i => simp only []; split <;> simp

theorem linkD_len (N : List Int) (E : Eg) (x y : Int) : (linkD N E x y).2.length ≤ E.length + 1 := by
  unfold linkD
  split
  · simp
  · cases atE E x y <;> simp

theorem cutD_len (N : List Int) (E : Eg) (x y : Int) : (cutD N E x y).2.length ≤ E.length := by
  unfold cutD
  split
  · simp
  · cases atE E x y with
    | none => simp
    | some i =>
      simp only []
      split
      · simp
      · rw [List.length_eraseIdx]; split <;> omega

theorem doE_len (N : List Int) (E : Eg) (a x y : Int) : (doE N E a x y).length ≤ E.length + 1 := by
  unfold doE
  split
  · exact bindD_len N E x y
  · split
    · exact linkD_len N E x y
    · split
      · have := cutD_len N E x y; omega
      · omega

theorem GS.start {B p m : Nat} {Q : Gr} {w : World} (h : GP B p m Q [] [] w) : GS B p m w.heap.size Q [] [] (w.alloc (.cells #[.slice none 0 0, .slice none 0 0] 30)) := by
  have hb : Below w.heap.size w (w.alloc (.cells #[.slice none 0 0, .slice none 0 0] 30)) := (Below.refl _ w).alloc (Nat.le_refl _) _
  exact ⟨h.g.kept fun k hk => hb.block k hk, ⟨.slice none 0 0, .slice none 0 0, ⟨heap_alloc_new _ _, ⟨rfl, .inl ⟨rfl, rfl⟩⟩, ⟨rfl, .inl ⟨rfl, rfl⟩⟩, h.big⟩⟩, h.rel, h.low, Nat.le_trans h.big hb.size⟩

theorem newNone (w : World) : Calls Try.prog 10 #[.slice none 0 0] w fun e w' => ∃ p m Q, e = .returned (.pointer (some ⟨p, 0, none⟩)) ∧ GP w.heap.size p m Q [] [] w' ∧ Below w.heap.size w w' :=
  GP.new w [] [] (.slice none 0 0) (Nums.mk (xs := []) (by simp) (by simp) (by simp) (by simp)) (fun h => absurd h (by simp)) (by simp) List.Pairwise.nil (fun _ => Iff.rfl)

/-- is a number in a list (the law's own) -/
theorem lawIn (w : World) (v : Value) (l : List Int) (k : Int) (h : Nums w .u64 v l) :
    Calls Try.prog 14 #[v, .int .u64 k] w fun e w' => e = .returned (.bool (decide (k ∈ l))) ∧ w = w' := by
  obtain ⟨p, cap, rfl, hcap, hbig, -, hc⟩ := h.slice
  have hl : l.length ≤ 9223372036854775807 := by omega
  have HC := Lib.hid hc
  clear hcap hbig h hc
  go_enter Try.func14, Try.ntmps14
  go_wp2_with fail
  go_loopg [9] l.length (fun q i wr => ∃ j : Nat, q = l.length - j ∧ j ≤ l.length ∧ i = .int .i64 j ∧ (∀ x ∈ l.take j, x ≠ k) ∧ wr = w)
  case atStart => exact ⟨0, rfl, by omega, rfl, by simp, rfl⟩
  case round =>
    obtain ⟨j, rfl, hj, rfl, hall, rfl⟩ := hrel
    have HA := Lib.hid hall
    clear hall
    by_cases hlt : j < l.length
    · obtain ⟨b, off, rfl, hcell⟩ := HC.out j hlt
      by_cases hx : l[j] = k
      · go_wp2_with fail
        go_ret
        exact ⟨ret_bool (by rw [decide_eq_true]; rw [← hx]; exact List.getElem_mem hlt), rfl⟩
      · have HX := Lib.hid hx
        go_wp2_with fail
        go_roundg (l.length - (j + 1))
        case measure => omega
        case rel => exact ⟨j + 1, rfl, by omega, by go_num, fun x hh => by
          rw [List.take_add_one, List.getElem?_eq_getElem hlt] at hh
          rcases List.mem_append.1 hh with h1 | h1
          · exact HA.out x h1
          · simp at h1; rw [h1]; exact HX.out, rfl⟩
    · go_wp2_with fail
      go_ret
      exact ⟨ret_bool (by
        have := HA.out
        rw [List.take_of_length_le (by omega)] at this
        rw [decide_eq_false]
        exact fun hm => this k hm rfl), rfl⟩

end Go.Proofs.Ytdbeekdnehojnaa
