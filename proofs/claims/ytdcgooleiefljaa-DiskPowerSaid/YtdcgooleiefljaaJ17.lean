/-
  disk: Swap, in one.
  How a law's contract closes its given row: the answer true, each argument as it read, nothing old turned.
  How arguments with depth read: slices of numbers inside structs, slices of pairs.
-/
import Derived.Test.YtdcgooleiefljaaJ16
import Derived.Test.YtdcgooleiefljaaJ01
import Derived.ProofKit
import Derived.Test.YtdcgooleiefljaaJ04
import Derived.Deep.Slices
namespace Go.Proofs.Ytdcgooleiefljaa
open Go.RowKit Go.ChangeMaps Go.Shelf

/-- what a Swap answers, and leaves -/
def swapZ (S : List (List UInt8 × List UInt8 × Nat)) (frm nto : List UInt8) (z : Int) (S' : List (List UInt8 × List UInt8 × Nat)) : Prop :=
  if rightZ nto = false then z = 4 ∧ S' = S
  else if S.any (fun s => decide (s.1 = frm)) = false then z = 6 ∧ S' = S
  else z = 0 ∧ ∃ s ∈ S, s.1 = frm ∧ S' = putS (S.filter fun s => decide (s.1 ≠ frm)) (nto, s.2.1.take s.2.2, s.2.2)

theorem dkSwap1 (W : World) (B p m : Nat) (left : Int) (down : Bool) (room : Int) (F : List Fz) (h : DkAt W B p m left down room F) (bd bf bt : Nat) (frm nto : List UInt8) (cd : W.cell? ⟨bd, 0, none⟩ = some (.pointer (some ⟨p, 0, none⟩))) (cf : W.cell? ⟨bf, 0, none⟩ = some (strV frm)) (ct : W.cell? ⟨bt, 0, none⟩ = some (strV nto)) (hlen : ∀ f ∈ F, f.bytes.length ≤ 1000000000) :
    Calls Try.prog 31 #[.pointer (some ⟨bd, 0, none⟩), .pointer (some ⟨bf, 0, none⟩), .pointer (some ⟨bt, 0, none⟩)] W fun e w' => ∃ z, e = .returned (.int .i64 z) ∧ ∃ F', swapZ (F.map plain) frm nto z (F'.map plain) ∧ DkAt w' B p m left down room F' ∧ DkStep W w' p m F F' := by
  unfold swapZ
  rw [any_plain]
  cases hrz : rightZ nto with
  | false =>
    refine (dkSwap_form W B p m left down room F h bd bf bt frm nto cd cf ct hrz).mono ?_
    rintro e w' ⟨rfl, hb⟩
    exact ⟨4, rfl, F, by simp, h.below hb, DkStep.below p m F hb⟩
  | true =>
    cases hin : inF F frm with
    | false =>
      refine (dkSwap_none W B p m left down room F h bd bf bt frm nto cd cf ct hrz hin).mono ?_
      rintro e w' ⟨rfl, hb⟩
      exact ⟨6, rfl, F, by simp, h.below hb, DkStep.below p m F hb⟩
    | true =>
      obtain ⟨F1, f, F2, hF, hnm⟩ := in_split hin
      refine (dkSwap_yes W B p m left down room F F1 F2 f h hF bd bf bt frm nto cd cf ct hrz hnm (hlen f (by rw [hF]; simp))).mono ?_
      rintro e w' ⟨rfl, F', hp, hD, hS⟩
      refine ⟨0, rfl, F', ?_, hD, hS⟩
      rw [if_neg (by simp), if_neg (by simp)]
      exact ⟨rfl, plain f, by rw [hF]; simp, hnm, hp⟩

set_option maxHeartbeats 4000000 in
theorem dkSwap (w : World) (B p m : Nat) (left : Int) (down : Bool) (room : Int) (F : List Fz) (h : DkAt w B p m left down room F) (hl : -1 ≤ left ∧ left ≤ 9223372036854775807) (frm nto : List UInt8) (hlen : ∀ f ∈ F, f.bytes.length ≤ 1000000000) :
    Calls Try.prog 15 #[.pointer (some ⟨p, 0, none⟩), strV frm, strV nto] w fun e w' => ∃ z, e = .returned (.int .i64 z) ∧ ∃ F', (if (spendZ left down).1 = true then swapZ (F.map plain) frm nto z (F'.map plain) else z = 9 ∧ F'.map plain = F.map plain) ∧
      DkAt w' B p m (spendZ left down).2.1 (spendZ left down).2.2 room F' ∧ DkStep w w' p m F F' := by
  obtain ⟨W3, hW3⟩ : ∃ W3, W3 = boxes3 w (.pointer (some ⟨p, 0, none⟩)) (strV frm) (strV nto) 25 9 9 := ⟨_, rfl⟩
  obtain ⟨hb3, cd, cf, ct, hsz⟩ := boxes3_cells w (.pointer (some ⟨p, 0, none⟩)) (strV frm) (strV nto) 25 9 9
  rw [← hW3] at hb3 cd cf ct hsz
  have h3 := h.below hb3
  have hpl : p < w.heap.size := (h.lt p (.inl rfl)).2
  obtain ⟨Q, hQ⟩ : ∃ Q : Int → List Fz → Prop, Q = fun z F' => (if (spendZ left down).1 = true then swapZ (F.map plain) frm nto z (F'.map plain) else z = 9 ∧ F'.map plain = F.map plain) := ⟨_, rfl⟩
  have hc := dkChange W3 B p m left down room F h3 hl 31 (enters_of Try.func31 (by kernel_rfl) rfl) #[.pointer (some ⟨w.heap.size, 0, none⟩), .pointer (some ⟨w.heap.size + 1, 0, none⟩), .pointer (some ⟨w.heap.size + 2, 0, none⟩)] (.slice none 0 0) []
    (fun W _ => ⟨rfl, none, 0, rfl, by simp, by simp, by simp, by simp⟩)
    (fun z w' => ∃ F', Q z F' ∧ DkAt w' B p m (spendZ left down).2.1 (spendZ left down).2.2 room F' ∧ DkStep W3 w' p m F F')
    (fun hs W hD hM => ⟨F, by rw [hQ]; simp [hs], hD, DkStep.power p m F hM⟩)
    (fun hs hx => by simp at hx)
    (fun hs _ W hD hM => by
      refine (dkSwap1 W B p m _ _ room F hD w.heap.size (w.heap.size + 1) (w.heap.size + 2) frm nto (cell_power hM cd (by simp; omega)) (cell_power hM cf (by simp; omega)) (cell_power hM ct (by simp; omega)) hlen).mono ?_
      rintro e w' ⟨z, rfl, F', hz, hD', hS'⟩
      exact ⟨z, rfl, F', by rw [hQ]; simpa [hs] using hz, hD', (DkStep.power p m F hM).trans hS'⟩)
  have HQ := Lib.hid hQ
  have HW := Lib.hid hW3
  have hB := Lib.hid hb3
  unfold boxes3 at HW
  have hgoal : ∀ z F', Q z F' → (if (spendZ left down).1 = true then swapZ (F.map plain) frm nto z (F'.map plain) else z = 9 ∧ F'.map plain = F.map plain) := by rw [hQ]; exact fun _ _ h => h
  have HG := Lib.hid hgoal
  clear hQ hW3 hb3 cd cf ct hsz h3 hpl h hlen hgoal
  refine Calls.mono (R := fun e w' => ∃ z, e = .returned (.int .i64 z) ∧ ∃ F', Q z F' ∧ DkAt w' B p m (spendZ left down).2.1 (spendZ left down).2.2 room F' ∧ DkStep w w' p m F F') ?_ ?_
  · go_enter Try.func15, Try.ntmps15
    go_wp2_with (go_at_call 23; rw [← HW.out]; refine hc.mono ?_; rintro e w' ⟨z, rfl, F', hq, hD, hS⟩; have R := Lib.hid (And.intro hq (And.intro hD hS)); clear hq hD hS)
    go_ret
    exact ⟨z, rfl, F', R.out.1, R.out.2.1, (DkStep.below p m F hB.out).trans R.out.2.2⟩
  · rintro e w' ⟨z, rfl, F', hq, hD, hS⟩
    exact ⟨z, rfl, F', HG.out _ _ hq, hD, hS⟩

end Go.Proofs.Ytdcgooleiefljaa

namespace Go.Proofs.Ytdcgooleiefljaa
open Go.ChangeShapes Go.WideShapes Go.ChangeAt Go.RowKit

theorem own : ownKnob Try.prog.godebug = none := by kernel_rfl
theorem laidOut : laidOutB Try.prog = true := by kernel_rfl

/-- a law's contract: whatever the world, it answers true, and nothing that was there has turned -/
def Law (f : FuncId) (args : Array Value) (w : World) : Prop := Calls Try.prog f args w fun e w' => e = .returned (.bool true) ∧ Below w.heap.size w w'

theorem trodAll_below {H : Type} {enc : TypeId × Value → H} {W W' : World} (hb : Below W.heap.size W W') : ∀ (ts : List TypeId) (vs : List Value) (ds : List (DataW H)) (ps : List MemPlace),
    (∀ t ∈ ts, Try.prog.readableRec t = true ∧ t < Try.prog.types.size) → DataW.TrodAll enc Try.prog W 0 (fun _ => true) true ts vs ds ps → (∀ x ∈ ps, x.block < W.heap.size) →
    DataW.TrodAll enc Try.prog W' 0 (fun b => decide (b < W.heap.size)) true ts vs ds ps
  | [], [], [], _, _, h, _ => h
  | t :: ts, v :: vs, d :: ds, ps, hr, h, hlt => by
    obtain ⟨p, q, h1, h2, rfl⟩ := h
    have ht := hr t (by simp)
    exact ⟨p, q, Below.trod laidOut ht.1 ht.2 h1 hb fun x hx => hlt x (by simp [hx]), trodAll_below hb ts vs ds q (fun t' ht' => hr t' (by simp [ht'])) h2 fun x hx => hlt x (by simp [hx]), rfl⟩
  | [], _ :: _, _, _, _, h, _ => h.elim
  | [], [], _ :: _, _, _, h, _ => h.elim
  | _ :: _, [], _, _, _, h, _ => h.elim
  | _ :: _, _ :: _, [], _, _, h, _ => h.elim

theorem law_post {H : Type} {enc : TypeId × Value → H} {f : Func} {s : ChangeSpec} {W W' : World} {args : Array Value} {ds : List (DataW H)} {before : List MemPlace}
    (hW : DataW.Whole enc Try.prog f.params.toList s.vars false W args.toList ds [] before) (hvars : s.vars = []) (hres : f.resultTypes = #[4])
    (h1 : (s.fn H (ds ++ [])).results = [.lit (.bool true)]) (h2 : (s.fn H (ds ++ [])).args = ds) (h3 : (s.fn H (ds ++ [])).vars = [])
    (hr : ∀ t ∈ f.params.toList, Try.prog.readableRec t = true ∧ t < Try.prog.types.size) (hb : Below W.heap.size W W') :
    s.post enc Try.prog f false true false false W args (.bool true) W' := by
  have hW' := hW
  obtain ⟨p, q, hA, hV, rfl, _, _⟩ := hW
  rw [hvars] at hV
  obtain ⟨_, rfl⟩ := trodVars_none hV
  refine ⟨ds, [], p ++ [], [], p, [], hW', ?_, ?_, ?_, hb.frame _, fun h => by cases h⟩
  · rw [h1, hres]; exact trodAll_mk1 (shut_bool Try.underlying4 true)
  · rw [h2]; exact trodAll_below hb _ _ _ _ hr hA fun x hx => hW'.lt x (by simp [hx])
  · rw [h3, hvars]; rfl

/-- an argument that is a slice of numbers reads so -/
theorem open_nums {H : Type} {enc : TypeId × Value → H} {W : World} {base t e : TypeId} {k : IntKind} {v : Value} {d : DataW H} {ps : List MemPlace}
    (ht : Try.prog.underlying t = some (.slice e)) (he : Try.prog.underlying e = some (.int k)) (hc : Try.prog.cellsOf e = 1)
    (hok : Value.okWide Try.prog W .any base t v) (h : DataW.Trod enc Try.prog W 0 (fun _ => true) true t v d ps) :
    ∃ xs : List Int, Nums W k v xs ∧ ∀ x ∈ xs, (Lit.int k x).wf = true := by
  obtain ⟨a0, len, cap, rfl⟩ := okWide_slice ht hok
  obtain ⟨fuel, hf⟩ := h
  rcases open_ints ht he hc hf with ⟨hcs, hx⟩ | ⟨a, len', cap', zs, hcs, _, hl, hm, hz, hx, hcell, hwz⟩
  · simp [Value.cells] at hcs
    obtain ⟨rfl, rfl, rfl⟩ := hcs
    exact ⟨[], Nums.mk (xs := []) (by simp) (by simp) (by simp) (by simp), by simp⟩
  · simp [Value.cells] at hcs
    obtain ⟨rfl, rfl, rfl⟩ := hcs
    simp only [if_true] at hz
    have hlen : (zs.take len).length = len := by simp; omega
    refine ⟨zs.take len, ?_, fun x hx => hwz x (List.mem_of_mem_take hx)⟩
    have key : Nums W k (.slice (some a) (zs.take len).length cap) (zs.take len) := by
      refine Nums.mk (by omega) (by simpa [maxLen] using hm) (by simp) fun i hi => ?_
      have hi' : i < zs.length := by omega
      have := hcell i hi'
      obtain ⟨b, off, spot⟩ := a
      obtain rfl : spot = none := by
        simpa [Addr.add] using World.cell?_spot (hcell 0 (by omega))
      rw [Addr.add_lit] at this
      refine ⟨b, off, rfl, ?_⟩
      rw [this]
      simp [List.getD, List.getElem?_eq_getElem hi']
    rw [hlen] at key
    exact key

end Go.Proofs.Ytdcgooleiefljaa

namespace Go.Proofs.Ytdcgooleiefljaa
open Go.ChangeShapes Go.WideShapes Go.ChangeAt Go.RowKit Go.Deep

theorem exists_list {α : Type} (n : Nat) {p : Nat → α → Prop} (h : ∀ i, i < n → ∃ x, p i x) : ∃ l : List α, l.length = n ∧ ∀ i (hi : i < l.length), p i l[i] := by
  induction n with
  | zero => exact ⟨[], rfl, fun i hi => absurd hi (by simp)⟩
  | succ n ih =>
    obtain ⟨l, hl, hp⟩ := ih fun i hi => h i (by omega)
    obtain ⟨x, hx⟩ := h n (by omega)
    refine ⟨l ++ [x], by simp [hl], fun i hi => ?_⟩
    simp only [List.length_append, List.length_cons, List.length_nil] at hi
    rcases Nat.lt_or_ge i l.length with h1 | h1
    · rw [List.getElem_append_left h1]; exact hp i h1
    · have e : i = n := by omega
      subst e
      rw [List.getElem_append_right (by omega)]
      simp [hl, hx]

section
variable {H : Type} {enc : TypeId × Value → H} {W : World}

/-- a slice of numbers, wherever it is met -/
theorem nums_of_trod {t e : TypeId} {k : IntKind} {fuel : Nat} {cs : List Value} {x : DataW H × List MemPlace}
    (ht : Try.prog.underlying t = some (.slice e)) (he : Try.prog.underlying e = some (.int k)) (hc : Try.prog.cellsOf e = 1)
    (hf : DataW.trod enc Try.prog W 0 (fun _ => true) true fuel t cs = some x) : ∃ v xs, cs = [v] ∧ Nums W k v xs ∧ ∀ x ∈ xs, (Lit.int k x).wf = true := by
  rcases open_ints ht he hc hf with ⟨hcs, hx⟩ | ⟨a, len', cap', zs, hcs, _, hl, hm, hz, hx, hcell, hwz⟩
  · exact ⟨_, [], hcs, Nums.mk (xs := []) (by simp) (by simp) (by simp) (by simp), by simp⟩
  · simp only [if_true] at hz
    have hlen : (zs.take len').length = len' := by simp; omega
    refine ⟨_, zs.take len', hcs, ?_, fun x hx => hwz x (List.mem_of_mem_take hx)⟩
    have key : Nums W k (.slice (some a) (zs.take len').length cap') (zs.take len') := by
      refine Nums.mk (by omega) (by simpa [maxLen] using hm) (by simp) fun i hi => ?_
      have hi' : i < zs.length := by omega
      have := hcell i hi'
      obtain ⟨b, off, spot⟩ := a
      obtain rfl : spot = none := by
        simpa [Addr.add] using World.cell?_spot (hcell 0 (by omega))
      rw [Addr.add_lit] at this
      refine ⟨b, off, rfl, ?_⟩
      rw [this]
      simp [List.getD, List.getElem?_eq_getElem hi']
    rw [hlen] at key
    exact key

theorem cells_two {a : Addr} {cs : List Value} (h : W.cells? 0 a 2 = some cs) : ∃ c0 c1, cs = [c0, c1] ∧ W.cell? (a.add 0) = some c0 ∧ W.cell? (a.add 1) = some c1 := by
  unfold World.cells? at h
  simp only [Nat.zero_le, if_true, List.range_succ, List.range_zero, List.nil_append, List.cons_append, List.mapM_cons, List.mapM_nil] at h
  cases h0 : W.cell? (a.add 0) with
  | none => rw [h0] at h; simp at h
  | some c0 =>
    cases h1 : W.cell? (a.add 1) with
    | none => rw [h0, h1] at h; simp at h
    | some c1 =>
      rw [h0, h1] at h
      simp at h
      exact ⟨c0, c1, h.symm, rfl, rfl⟩

/-- a slice of pairs: a number and a slice of numbers each -/
theorem recs_of_trod {t e e0 e1 e2 : TypeId} {f0 f1 : Field} {fuel : Nat} {cs : List Value} {x : DataW H × List MemPlace}
    (ht : Try.prog.underlying t = some (.slice e)) (he : Try.prog.underlying e = some (.struct #[f0, f1])) (hce : Try.prog.cellsOf e = 2)
    (h0 : f0.type = e0 ∧ f0.offset = 0) (hu0 : Try.prog.underlying e0 = some (.int .u64)) (hc0 : Try.prog.cellsOf e0 = 1)
    (h1 : f1.type = e1 ∧ f1.offset = 1) (hu1 : Try.prog.underlying e1 = some (.slice e2)) (hc1 : Try.prog.cellsOf e1 = 1) (hu2 : Try.prog.underlying e2 = some (.int .i32)) (hc2 : Try.prog.cellsOf e2 = 1)
    (hf : DataW.trod enc Try.prog W 0 (fun _ => true) true fuel t cs = some x) :
    ∃ v l, cs = [v] ∧ Recs W v l ∧ ∀ r ∈ l, (Lit.int .u64 r.1).wf = true ∧ ∀ y ∈ r.2, (Lit.int .i32 y).wf = true := by
  rcases open_slice ht hf with ⟨hcs, _⟩ | ⟨a, len, cap, m, n, D, Pl, hcs, _, hl, hm, hmm, _, hel⟩
  · exact ⟨_, [], hcs, ⟨none, 0, rfl, by simp, by simp, by simp, fun i hi => absurd hi (by simp)⟩, by simp⟩
  · simp only [if_true] at hmm
    subst hmm
    rw [hce] at hel
    have each : ∀ i, i < len → ∃ r : Int × List Int, ∃ u, W.cell? (a.add (i * 2)) = some (.int .u64 r.1) ∧ W.cell? (a.add (i * 2 + 1)) = some u ∧ Nums W .i32 u r.2 ∧ (Lit.int .u64 r.1).wf = true ∧ ∀ y ∈ r.2, (Lit.int .i32 y).wf = true := by
      intro i hi
      obtain ⟨cs', hcs', htr⟩ := hel i (by omega)
      obtain ⟨c0, c1, rfl, g0, g1⟩ := cells_two hcs'
      obtain ⟨y0, y1, n', _, _, t0, t1⟩ := trod_struct2 he htr
      rw [h0.1, h0.2, hc0] at t0
      rw [h1.1, h1.2, hc1] at t1
      obtain ⟨id, e0', _, w0⟩ := DataW.trod_int hu0 t0
      obtain ⟨u, xs, e1', hn, wx⟩ := nums_of_trod hu1 hu2 hc2 t1
      simp at e0' e1'
      subst e0' e1'
      rw [add_add] at g0 g1
      exact ⟨(id, xs), c1, by simpa using g0, g1, hn, w0, wx⟩
    obtain ⟨l, hll, hp⟩ := exists_list len each
    refine ⟨_, l, hcs, ⟨some a, m, by rw [hll], by omega, by simpa [maxLen] using hm, by simp, fun i hi => ?_⟩, fun r hr => ?_⟩
    · obtain ⟨u, g0, g1, hn, _⟩ := hp i hi
      have h00 := (hp 0 (by omega)).choose_spec.1
      obtain ⟨b, off, spot⟩ := a
      obtain rfl : spot = none := by
        simpa [Addr.add] using World.cell?_spot h00
      rw [Addr.add_lit] at g0 g1
      exact ⟨b, off, u, rfl, g0, by rw [Nat.add_assoc]; exact g1, hn⟩
    · obtain ⟨i, hi, rfl⟩ := List.mem_iff_getElem.1 hr
      obtain ⟨u, _, _, _, w0, wx⟩ := hp i hi
      exact ⟨w0, wx⟩

end

end Go.Proofs.Ytdcgooleiefljaa
