/-
  best's law: the document's example.
  best's law: BestMany.
  best: lists are merged.
  best, the plain law: of hits with IDs of their own the nearest few are the first of all in order.
  How a law's contract closes its given row: the answer true, each argument as it read, nothing old turned.
  How arguments with depth read: slices of numbers inside structs, slices of pairs.
  An argument that is a slice of hits.
  best's law: BestTwice.
  best, the plain law: with a bound is the first of without; the order in which hits come does not matter.
  The document's Sort: hits in order.
-/
import Derived.Test.YtpjbkaibgajpcaaGreatJ08
import Derived.Test.YtpjbkaibgajpcaaGreatJ01
import Derived.ProofKit
import Derived.Deep.Slices
import Derived.Deep.Strs
namespace Go.Proofs.YtpjbkaibgajpcaaGreat
open Go.RowKit
set_option maxRecDepth 20000

end Go.Proofs.YtpjbkaibgajpcaaGreat

namespace Go.Proofs.YtpjbkaibgajpcaaGreat
open Go.RowKit
set_option maxRecDepth 20000

end Go.Proofs.YtpjbkaibgajpcaaGreat

namespace Go.Proofs.YtpjbkaibgajpcaaGreat
open Go.RowKit
set_option maxRecDepth 20000

/-- a slice of slices of hits, and all that it reaches, lies in E -/
def ListsF (w : World) (E : Nat → Prop) (v : Value) (ls : List (List Hz)) : Prop :=
  ∃ p cap, v = .slice p ls.length cap ∧ ls.length ≤ cap ∧ cap ≤ 9223372036854775807 ∧ (p = none → cap = 0) ∧
    ∀ i (hi : i < ls.length), ∃ b off u, p = some ⟨b, off, none⟩ ∧ E b ∧ w.cell? ⟨b, off + i, none⟩ = some u ∧ HitsF w E u ls[i]

theorem ListsF.agree {w w' : World} {E : Nat → Prop} {v : Value} {ls : List (List Hz)} (h : ListsF w E v ls) (ha : Agree E w w') : ListsF w' E v ls := by
  obtain ⟨p, cap, hv, h1, h2, h3, h4⟩ := h
  refine ⟨p, cap, hv, h1, h2, h3, fun i hi => ?_⟩
  obtain ⟨b, off, u, hp, hf, c0, hn⟩ := h4 i hi
  exact ⟨b, off, u, hp, hf, by rw [ha.cell hf]; exact c0, hn.agree ha⟩

theorem ListsF.elem {w : World} {E : Nat → Prop} {p : Option Addr} {n cap : Nat} {ls : List (List Hz)} (h : ListsF w E (.slice p n cap) ls) {i : Nat} (hi : i < ls.length) :
    ∃ b off q qc, p = some ⟨b, off, none⟩ ∧ w.cell? ⟨b, off + i, none⟩ = some (.slice q ls[i].length qc) ∧ HitsF w E (.slice q ls[i].length qc) ls[i] := by
  obtain ⟨p', cap', hv, _, _, _, h⟩ := h
  simp only [Value.slice.injEq] at hv
  obtain ⟨rfl, _, _⟩ := hv
  obtain ⟨b, off, u, hp, -, c0, hn⟩ := h i hi
  obtain ⟨q, qc, rfl, -, -, -, -⟩ := id hn
  exact ⟨b, off, q, qc, hp, c0, hn⟩

/-- what lists put together are -/
def mergeZ (n : Nat) (ls : List (List Hz)) : List Hz := ls.foldl (fun l ms => (addsZ n l ms).2) []

end Go.Proofs.YtpjbkaibgajpcaaGreat

namespace Go.Proofs.YtpjbkaibgajpcaaGreat
open Go.RowKit
set_option maxRecDepth 20000

theorem rankZ_take {l : List Hz} {h : Hz} {j : Nat} (hr : rankZ l h ≤ j) : rankZ (l.take j) h = rankZ l h := by
  unfold rankZ at *
  induction l generalizing j with
  | nil => simp
  | cons a l ih =>
    simp only [List.takeWhile_cons] at hr ⊢
    cases ha : near a h
    · rw [ha] at hr
      cases j with
      | zero => simp
      | succ j => simp [List.takeWhile_cons, ha]
    · rw [ha] at hr
      simp only [if_true, List.length_cons] at hr
      cases j with
      | zero => omega
      | succ j =>
        simp only [List.take_succ_cons, List.takeWhile_cons, ha, if_true, List.length_cons]
        rw [ih (by omega)]

theorem addZ_new {n : Nat} {l : List Hz} {h : Hz} (hi : ∀ x ∈ l, x.id ≠ h.id) : addZ n l h = if l.length = n then (if near h (l.getD (n - 1) h) = true then (true, insZ (l.take (n - 1)) h) else (false, l)) else (true, insZ l h) := by
  unfold addZ
  rw [find_none fun j hj => hi _ (List.getElem_mem hj)]

theorem cut_add {n : Nat} (hn : 1 ≤ n) {L : List Hz} (hs : Sorted L) {h : Hz} (hi : ∀ x ∈ L, x.id ≠ h.id) : (addZ n (L.take n) h).2 = (insZ L h).take n := by
  rw [addZ_new fun x hx => hi x (List.mem_of_mem_take hx)]
  rcases Nat.lt_or_ge L.length n with hl | hl
  · rw [List.take_of_length_le (by omega), if_neg (by omega)]
    simp only
    rw [List.take_of_length_le (by rw [insZ_length]; omega)]
  · have hlen : (L.take n).length = n := by rw [List.length_take]; omega
    have hk : n - 1 < L.length := by omega
    have hd : (L.take n).getD (n - 1) h = L[n - 1] := by simp [List.getD, List.getElem?_take, show n - 1 < n by omega, List.getElem?_eq_getElem hk]
    rw [if_pos hlen, hd]
    cases hnr : near h L[n - 1]
    · rw [if_neg (by simp)]
      simp only
      have hr : n ≤ rankZ L h := by
        rcases Nat.lt_or_ge (rankZ L h) n with h1 | h1
        · have h2 := rankZ_above hs hk (h := h) (by omega)
          rcases near_total (hi _ (List.getElem_mem hk)) with h3 | h3
          · rw [h2] at h3; cases h3
          · rw [hnr] at h3; cases h3
        · exact h1
      have hle := rankZ_le L h
      unfold insZ
      rw [List.take_append_of_le_length (by rw [List.length_take]; omega), List.take_take, Nat.min_eq_left hr]
    · rw [if_pos rfl]
      simp only
      have hr : rankZ L h ≤ n - 1 := by
        rcases Nat.lt_or_ge (n - 1) (rankZ L h) with h1 | h1
        · have h2 := rankZ_below hk (h := h) h1
          rw [near_asymm h2] at hnr; cases hnr
        · exact h1
      have hle := rankZ_le L h
      rw [show (L.take n).take (n - 1) = L.take (n - 1) from by rw [List.take_take, Nat.min_eq_left (by omega)]]
      unfold insZ
      rw [rankZ_take hr, List.take_take, Nat.min_eq_left hr, List.take_append, List.take_of_length_le (l := L.take (rankZ L h)) (by rw [List.length_take]; omega), List.length_take, Nat.min_eq_left hle]
      congr 1
      obtain ⟨j, hj⟩ : ∃ j, n - rankZ L h = j + 1 := ⟨n - rankZ L h - 1, by omega⟩
      rw [hj, List.take_succ_cons, List.drop_take]
      congr 2
      omega

end Go.Proofs.YtpjbkaibgajpcaaGreat

namespace Go.Proofs.YtpjbkaibgajpcaaGreat
open Go.ChangeShapes Go.WideShapes Go.ChangeAt Go.RowKit
set_option maxRecDepth 20000

theorem own : ownKnob Tryz.prog.godebug = none := by kernel_rfl
theorem laidOut : laidOutB Tryz.prog = true := by kernel_rfl

/-- a law's contract: whatever the world, it answers true, and nothing that was there has turned -/
def Law (f : FuncId) (args : Array Value) (w : World) : Prop := Calls Tryz.prog f args w fun e w' => e = .returned (.bool true) ∧ Below w.heap.size w w'

theorem trodAll_below {H : Type} {enc : TypeId × Value → H} {W W' : World} (hb : Below W.heap.size W W') : ∀ (ts : List TypeId) (vs : List Value) (ds : List (DataW H)) (ps : List MemPlace),
    (∀ t ∈ ts, Tryz.prog.readableRec t = true ∧ t < Tryz.prog.types.size) → DataW.TrodAll enc Tryz.prog W 0 (fun _ => true) true ts vs ds ps → (∀ x ∈ ps, x.block < W.heap.size) →
    DataW.TrodAll enc Tryz.prog W' 0 (fun b => decide (b < W.heap.size)) true ts vs ds ps
  | [], [], [], _, _, h, _ => h
  | t :: ts, v :: vs, d :: ds, ps, hr, h, hlt => by
    obtain ⟨p, q, h1, h2, rfl⟩ := h
    have ht := hr t (by simp)
    exact ⟨p, q, Below.trod laidOut ht.1 ht.2 h1 hb fun x hx => hlt x (by simp [hx]), trodAll_below hb ts vs ds q (fun t' ht' => hr t' (by simp [ht'])) h2 fun x hx => hlt x (by simp [hx]), rfl⟩
  | [], _ :: _, _, _, _, h, _ => h.elim
  | [], [], _ :: _, _, _, h, _ => h.elim
  | _ :: _, [], _, _, _, h, _ => h.elim
  | _ :: _, _ :: _, [], _, _, h, _ => h.elim

theorem law_post {H : Type} {enc : TypeId × Value → H} {f : Func} {s : ChangeSpec} {W W' : World} {args : Array Value} {ds : List (DataW H)} {before : List MemPlace}
    (hW : DataW.Whole enc Tryz.prog f.params.toList s.vars false W args.toList ds [] before) (hvars : s.vars = []) (hres : f.resultTypes = #[4])
    (h1 : (s.fn H (ds ++ [])).results = [.lit (.bool true)]) (h2 : (s.fn H (ds ++ [])).args = ds) (h3 : (s.fn H (ds ++ [])).vars = [])
    (hr : ∀ t ∈ f.params.toList, Tryz.prog.readableRec t = true ∧ t < Tryz.prog.types.size) (hb : Below W.heap.size W W') :
    s.post enc Tryz.prog f false true false false W args (.bool true) W' := by
  have hW' := hW
  obtain ⟨p, q, hA, hV, rfl, _, _⟩ := hW
  rw [hvars] at hV
  obtain ⟨_, rfl⟩ := trodVars_none hV
  refine ⟨ds, [], p ++ [], [], p, [], hW', ?_, ?_, ?_, hb.frame _, fun h => by cases h⟩
  · rw [h1, hres]; exact trodAll_mk1 (shut_bool Tryz.underlying4 true)
  · rw [h2]; exact trodAll_below hb _ _ _ _ hr hA fun x hx => hW'.lt x (by simp [hx])
  · rw [h3, hvars]; rfl

set_option maxRecDepth 100000 in
/-- an argument that is a slice of numbers reads so -/
theorem open_nums {H : Type} {enc : TypeId × Value → H} {W : World} {base t e : TypeId} {k : IntKind} {v : Value} {d : DataW H} {ps : List MemPlace}
    (ht : Tryz.prog.underlying t = some (.slice e)) (he : Tryz.prog.underlying e = some (.int k)) (hc : Tryz.prog.cellsOf e = 1)
    (hok : Value.okWide Tryz.prog W .any base t v) (h : DataW.Trod enc Tryz.prog W 0 (fun _ => true) true t v d ps) :
    ∃ xs : List Int, Nums W k v xs ∧ ∀ x ∈ xs, (Lit.int k x).wf = true := by
  obtain ⟨a0, len, cap, rfl⟩ := okWide_slice ht hok
  obtain ⟨fuel, hf⟩ := h
  rcases open_ints ht he hc hf with ⟨hcs, hx⟩ | ⟨a, len', cap', zs, hcs, _, hl, hm, hz, hx, hcell, hwz⟩
  · simp [Value.cells] at hcs
    obtain ⟨rfl, rfl, rfl⟩ := hcs
    exact ⟨[], Nums.mk (xs := []) (by simp) (by simp) (by simp) (by simp), by simp⟩
  · simp [Value.cells] at hcs
    obtain ⟨rfl, rfl, rfl⟩ := hcs
    simp only [if_true] at hz
    have hlen : (zs.take len).length = len := by simp; omega
    refine ⟨zs.take len, ?_, fun x hx => hwz x (List.mem_of_mem_take hx)⟩
    have key : Nums W k (.slice (some a) (zs.take len).length cap) (zs.take len) := by
      refine Nums.mk (by omega) (by simpa [maxLen] using hm) (by simp) fun i hi => ?_
      have hi' : i < zs.length := by omega
      have := hcell i hi'
      obtain ⟨b, off, spot⟩ := a
      obtain rfl : spot = none := by
        simpa [Addr.add] using World.cell?_spot (hcell 0 (by omega))
      rw [Addr.add_lit] at this
      refine ⟨b, off, rfl, ?_⟩
      rw [this]
      simp [List.getD, List.getElem?_eq_getElem hi']
    rw [hlen] at key
    exact key

end Go.Proofs.YtpjbkaibgajpcaaGreat

namespace Go.Proofs.YtpjbkaibgajpcaaGreat
open Go.ChangeShapes Go.WideShapes Go.ChangeAt Go.RowKit Go.Deep
set_option maxRecDepth 20000

theorem exists_list {α : Type} (n : Nat) {p : Nat → α → Prop} (h : ∀ i, i < n → ∃ x, p i x) : ∃ l : List α, l.length = n ∧ ∀ i (hi : i < l.length), p i l[i] := by
  induction n with
  | zero => exact ⟨[], rfl, fun i hi => absurd hi (by simp)⟩
  | succ n ih =>
    obtain ⟨l, hl, hp⟩ := ih fun i hi => h i (by omega)
    obtain ⟨x, hx⟩ := h n (by omega)
    refine ⟨l ++ [x], by simp [hl], fun i hi => ?_⟩
    simp only [List.length_append, List.length_cons, List.length_nil] at hi
    rcases Nat.lt_or_ge i l.length with h1 | h1
    · rw [List.getElem_append_left h1]; exact hp i h1
    · have e : i = n := by omega
      subst e
      rw [List.getElem_append_right (by omega)]
      simp [hl, hx]

section
variable {H : Type} {enc : TypeId × Value → H} {W : World}

/-- a slice of numbers, wherever it is met -/
theorem nums_of_trod {t e : TypeId} {k : IntKind} {fuel : Nat} {cs : List Value} {x : DataW H × List MemPlace}
    (ht : Tryz.prog.underlying t = some (.slice e)) (he : Tryz.prog.underlying e = some (.int k)) (hc : Tryz.prog.cellsOf e = 1)
    (hf : DataW.trod enc Tryz.prog W 0 (fun _ => true) true fuel t cs = some x) : ∃ v xs, cs = [v] ∧ Nums W k v xs ∧ ∀ x ∈ xs, (Lit.int k x).wf = true := by
  rcases open_ints ht he hc hf with ⟨hcs, hx⟩ | ⟨a, len', cap', zs, hcs, _, hl, hm, hz, hx, hcell, hwz⟩
  · exact ⟨_, [], hcs, Nums.mk (xs := []) (by simp) (by simp) (by simp) (by simp), by simp⟩
  · simp only [if_true] at hz
    have hlen : (zs.take len').length = len' := by simp; omega
    refine ⟨_, zs.take len', hcs, ?_, fun x hx => hwz x (List.mem_of_mem_take hx)⟩
    have key : Nums W k (.slice (some a) (zs.take len').length cap') (zs.take len') := by
      refine Nums.mk (by omega) (by simpa [maxLen] using hm) (by simp) fun i hi => ?_
      have hi' : i < zs.length := by omega
      have := hcell i hi'
      obtain ⟨b, off, spot⟩ := a
      obtain rfl : spot = none := by
        simpa [Addr.add] using World.cell?_spot (hcell 0 (by omega))
      rw [Addr.add_lit] at this
      refine ⟨b, off, rfl, ?_⟩
      rw [this]
      simp [List.getD, List.getElem?_eq_getElem hi']
    rw [hlen] at key
    exact key

theorem cells_two {a : Addr} {cs : List Value} (h : W.cells? 0 a 2 = some cs) : ∃ c0 c1, cs = [c0, c1] ∧ W.cell? (a.add 0) = some c0 ∧ W.cell? (a.add 1) = some c1 := by
  unfold World.cells? at h
  simp only [Nat.zero_le, if_true, List.range_succ, List.range_zero, List.nil_append, List.cons_append, List.mapM_cons, List.mapM_nil] at h
  cases h0 : W.cell? (a.add 0) with
  | none => rw [h0] at h; simp at h
  | some c0 =>
    cases h1 : W.cell? (a.add 1) with
    | none => rw [h0, h1] at h; simp at h
    | some c1 =>
      rw [h0, h1] at h
      simp at h
      exact ⟨c0, c1, h.symm, rfl, rfl⟩

/-- a slice of pairs: a number and a slice of numbers each -/
theorem recs_of_trod {t e e0 e1 e2 : TypeId} {f0 f1 : Field} {fuel : Nat} {cs : List Value} {x : DataW H × List MemPlace}
    (ht : Tryz.prog.underlying t = some (.slice e)) (he : Tryz.prog.underlying e = some (.struct #[f0, f1])) (hce : Tryz.prog.cellsOf e = 2)
    (h0 : f0.type = e0 ∧ f0.offset = 0) (hu0 : Tryz.prog.underlying e0 = some (.int .u64)) (hc0 : Tryz.prog.cellsOf e0 = 1)
    (h1 : f1.type = e1 ∧ f1.offset = 1) (hu1 : Tryz.prog.underlying e1 = some (.slice e2)) (hc1 : Tryz.prog.cellsOf e1 = 1) (hu2 : Tryz.prog.underlying e2 = some (.int .i32)) (hc2 : Tryz.prog.cellsOf e2 = 1)
    (hf : DataW.trod enc Tryz.prog W 0 (fun _ => true) true fuel t cs = some x) :
    ∃ v l, cs = [v] ∧ Recs W v l ∧ ∀ r ∈ l, (Lit.int .u64 r.1).wf = true ∧ ∀ y ∈ r.2, (Lit.int .i32 y).wf = true := by
  rcases open_slice ht hf with ⟨hcs, _⟩ | ⟨a, len, cap, m, n, D, Pl, hcs, _, hl, hm, hmm, _, hel⟩
  · exact ⟨_, [], hcs, ⟨none, 0, rfl, by simp, by simp, by simp, fun i hi => absurd hi (by simp)⟩, by simp⟩
  · simp only [if_true] at hmm
    subst hmm
    rw [hce] at hel
    have each : ∀ i, i < len → ∃ r : Int × List Int, ∃ u, W.cell? (a.add (i * 2)) = some (.int .u64 r.1) ∧ W.cell? (a.add (i * 2 + 1)) = some u ∧ Nums W .i32 u r.2 ∧ (Lit.int .u64 r.1).wf = true ∧ ∀ y ∈ r.2, (Lit.int .i32 y).wf = true := by
      intro i hi
      obtain ⟨cs', hcs', htr⟩ := hel i (by omega)
      obtain ⟨c0, c1, rfl, g0, g1⟩ := cells_two hcs'
      obtain ⟨y0, y1, n', _, _, t0, t1⟩ := trod_struct2 he htr
      rw [h0.1, h0.2, hc0] at t0
      rw [h1.1, h1.2, hc1] at t1
      obtain ⟨id, e0', _, w0⟩ := DataW.trod_int hu0 t0
      obtain ⟨u, xs, e1', hn, wx⟩ := nums_of_trod hu1 hu2 hc2 t1
      simp at e0' e1'
      subst e0' e1'
      rw [add_add] at g0 g1
      exact ⟨(id, xs), c1, by simpa using g0, g1, hn, w0, wx⟩
    obtain ⟨l, hll, hp⟩ := exists_list len each
    refine ⟨_, l, hcs, ⟨some a, m, by rw [hll], by omega, by simpa [maxLen] using hm, by simp, fun i hi => ?_⟩, fun r hr => ?_⟩
    · obtain ⟨u, g0, g1, hn, _⟩ := hp i hi
      have h00 := (hp 0 (by omega)).choose_spec.1
      obtain ⟨b, off, spot⟩ := a
      obtain rfl : spot = none := by
        simpa [Addr.add] using World.cell?_spot h00
      rw [Addr.add_lit] at g0 g1
      exact ⟨b, off, u, rfl, g0, by rw [Nat.add_assoc]; exact g1, hn⟩
    · obtain ⟨i, hi, rfl⟩ := List.mem_iff_getElem.1 hr
      obtain ⟨u, _, _, _, w0, wx⟩ := hp i hi
      exact ⟨w0, wx⟩

end

end Go.Proofs.YtpjbkaibgajpcaaGreat

namespace Go.Proofs.YtpjbkaibgajpcaaGreat
open Go.ChangeShapes Go.WideShapes Go.ChangeAt Go.RowKit Go.Deep
set_option maxRecDepth 20000

section
variable {H : Type} {enc : TypeId × Value → H} {W : World}

end

end Go.Proofs.YtpjbkaibgajpcaaGreat

namespace Go.Proofs.YtpjbkaibgajpcaaGreat
open Go.RowKit
set_option maxRecDepth 20000

theorem addZ_mem {n : Nat} (hn : 1 ≤ n) {l : List Hz} (g : GoodL n l) {h x : Hz} (hx : x ∈ (addZ n l h).2) : x ∈ l ∨ x = h := by
  rcases add_cases n l h hn g.len with ⟨k, hk, hp, ⟨-, ha⟩ | ⟨-, ha⟩⟩ | ⟨hp, ⟨hne, ha⟩ | ⟨heq, hk, ⟨-, ha⟩ | ⟨-, ha⟩⟩⟩
  · rw [ha] at hx; exact .inl hx
  · rw [ha] at hx
    rcases insZ_mem.1 hx with h1 | h1
    · exact .inr h1
    · exact .inl (List.mem_of_mem_eraseIdx h1)
  · rw [ha] at hx
    rcases insZ_mem.1 hx with h1 | h1
    · exact .inr h1
    · exact .inl h1
  · rw [ha] at hx; exact .inl hx
  · rw [ha] at hx
    rcases insZ_mem.1 hx with h1 | h1
    · exact .inr h1
    · exact .inl (List.mem_of_mem_take h1)

theorem addsZ_mem {n : Nat} (hn : 1 ≤ n) {l ms : List Hz} (g : GoodL n l) (hv : ∀ h ∈ ms, h.vec.length ≤ 1000000) {x : Hz} (hx : x ∈ (addsZ n l ms).2) : x ∈ l ∨ x ∈ ms := by
  unfold addsZ at hx
  revert hx
  generalize (0 : Nat) = z
  intro hx
  induction ms generalizing z l with
  | nil => exact .inl hx
  | cons h ms ih =>
    rw [List.foldl_cons] at hx
    rcases ih (addZ_good hn g (hv h (by simp))) (fun y hy => hv y (by simp [hy])) _ hx with h1 | h1
    · rcases addZ_mem hn g h1 with h2 | rfl
      · exact .inl h2
      · exact .inr (by simp)
    · exact .inr (by simp [h1])

/-- what is there and comes again, or farther -/
def There (m : List Hz) (h : Hz) : Prop := ∃ x ∈ m, x.id = h.id ∧ x.dist ≤ h.dist

theorem ids_same {l : List Hz} (hd : Ids l) {x y : Hz} (hx : x ∈ l) (hy : y ∈ l) (h : x.id = y.id) : x = y := by
  obtain ⟨i, hi, rfl⟩ := List.mem_iff_getElem.1 hx
  obtain ⟨j, hj, rfl⟩ := List.mem_iff_getElem.1 hy
  rcases Nat.lt_trichotomy i j with h1 | rfl | h1
  · exact absurd h (List.pairwise_iff_getElem.1 hd i j hi hj h1)
  · rfl
  · exact absurd h.symm (List.pairwise_iff_getElem.1 hd j i hj hi h1)

end Go.Proofs.YtpjbkaibgajpcaaGreat

namespace Go.Proofs.YtpjbkaibgajpcaaGreat
open Go.RowKit
set_option maxRecDepth 20000

theorem addZ_at {n : Nat} {l : List Hz} {h : Hz} {k : Nat} (hk : k < l.length) (hd : Ids l) (hi : l[k].id = h.id) : addZ n l h = if h.dist < l[k].dist then (true, insZ (l.eraseIdx k) h) else (false, l) := by
  unfold addZ
  rw [find_some hk (fun j hj hjk => by rw [← hi]; exact List.pairwise_iff_getElem.1 hd j k _ _ hjk) hi]
  simp only
  rw [show l.getD k h = l[k] from by simp [List.getD, List.getElem?_eq_getElem hk]]

theorem insZ_cut {L : List Hz} {h : Hz} {n : Nat} (hn : 1 ≤ n) (hr : rankZ L h ≤ n - 1) : insZ (L.take (n - 1)) h = (insZ L h).take n := by
  have hle := rankZ_le L h
  unfold insZ
  rw [rankZ_take hr, List.take_take, Nat.min_eq_left hr, List.take_append, List.take_of_length_le (l := L.take (rankZ L h)) (by rw [List.length_take]; omega), List.length_take, Nat.min_eq_left hle]
  congr 1
  obtain ⟨j, hj⟩ : ∃ j, n - rankZ L h = j + 1 := ⟨n - rankZ L h - 1, by omega⟩
  rw [hj, List.take_succ_cons, List.drop_take]
  congr 2
  omega

theorem find_id {l : List Hz} (h : Hz) : (∃ k, ∃ hk : k < l.length, l[k].id = h.id) ∨ ∀ x ∈ l, x.id ≠ h.id := by
  by_cases hx : ∃ x ∈ l, x.id = h.id
  · obtain ⟨x, hx, e⟩ := hx
    obtain ⟨k, hk, rfl⟩ := List.mem_iff_getElem.1 hx
    exact .inl ⟨k, hk, e⟩
  · exact .inr fun x hm e => hx ⟨x, hm, e⟩

theorem erase_rank {L : List Hz} (hs : Sorted L) {k : Nat} (hk : k < L.length) {h : Hz} (hn : near h L[k] = true) : rankZ (L.eraseIdx k) h ≤ k := by
  rcases Nat.lt_or_ge k (rankZ (L.eraseIdx k) h) with h1 | h1
  · have hle := rankZ_le (L.eraseIdx k) h
    have hlen := List.length_eraseIdx_of_lt hk
    have hk1 : k < (L.eraseIdx k).length := by omega
    have h2 := rankZ_below hk1 h1
    have e : (L.eraseIdx k)[k] = L[k + 1]'(by omega) := by rw [List.getElem_eraseIdx]; simp
    rw [e] at h2
    have h3 := List.pairwise_iff_getElem.1 hs k (k + 1) hk (by omega) (by omega)
    have h4 := near_trans hn h3
    rw [near_asymm h4] at h2; cases h2
  · exact h1

theorem erase_take {L : List Hz} {k n : Nat} (hk : k < L.length) (hn : k < n) : (L.take n).eraseIdx k = (L.eraseIdx k).take (n - 1) := by
  apply List.ext_getElem
  · rw [List.length_take, List.length_eraseIdx, List.length_eraseIdx, List.length_take]
    split <;> omega
  · intro i h1 h2
    rw [List.getElem_take, List.getElem_eraseIdx, List.getElem_eraseIdx]
    split <;> rw [List.getElem_take]

theorem take_erase {L : List Hz} {k n : Nat} (hk : k < L.length) (hn : n ≤ k) : (L.eraseIdx k).take n = L.take n := by
  apply List.ext_getElem
  · rw [List.length_take, List.length_eraseIdx_of_lt hk, List.length_take]; omega
  · intro i h1 h2
    rw [List.length_take] at h2
    rw [List.getElem_take, List.getElem_take, List.getElem_eraseIdx]
    simp [show i < k by omega]

theorem add_take {n N : Nat} (hn : 1 ≤ n) {L : List Hz} (hs : Sorted L) (hd : Ids L) (hN : L.length < N) (h : Hz) : (addZ n (L.take n) h).2 = (addZ N L h).2.take n := by
  rcases find_id (l := L) h with ⟨k, hk, hi⟩ | hi
  · rw [addZ_at hk hd hi]
    rcases Nat.lt_or_ge k n with hkn | hkn
    · have hk' : k < (L.take n).length := by rw [List.length_take]; omega
      rw [addZ_at hk' (hd.sublist (List.take_sublist _ _)) (by rw [List.getElem_take]; exact hi), List.getElem_take]
      split
      · rename_i hlt
        simp only
        have hr := erase_rank hs hk (h := h) (by simp [near, nearB, hlt])
        rw [erase_take hk hkn, insZ_cut hn (by omega)]
      · rfl
    · have hnl : n - 1 < L.length := by omega
      have hi' : ∀ x ∈ L.take n, x.id ≠ h.id := by
        intro x hx
        obtain ⟨j, hj, rfl⟩ := List.mem_iff_getElem.1 hx
        rw [List.length_take] at hj
        rw [List.getElem_take, ← hi]
        exact List.pairwise_iff_getElem.1 hd j k _ _ (by omega)
      split
      · simp only
        rw [← take_erase hk hkn]
        exact cut_add hn (hs.sublist (List.eraseIdx_sublist _ _)) fun x hx => by rw [← hi]; exact erase_ids hd hk x hx
      · rename_i hlt
        simp only
        rw [addZ_new hi', if_pos (by rw [List.length_take]; omega)]
        rw [show (L.take n).getD (n - 1) h = L[n - 1] from by simp [List.getD, List.getElem?_take, show n - 1 < n by omega, List.getElem?_eq_getElem hnl]]
        have h1 := List.pairwise_iff_getElem.1 hs (n - 1) k hnl hk (by omega)
        cases hc : near h L[n - 1]
        · simp
        · have h2 := near_trans hc h1
          simp only [near, nearB, Bool.or_eq_true, Bool.and_eq_true, decide_eq_true_eq] at h2
          omega
  · rw [cut_add hn hs hi, addZ_new hi, if_neg (by omega)]

theorem addZ_len (n : Nat) (l : List Hz) (h : Hz) : (addZ n l h).2.length ≤ l.length + 1 := by
  unfold addZ
  split
  · split
    · have := List.length_eraseIdx_le l (by assumption)
      simp only [insZ_length]; omega
    · simp
  · split
    · split
      · simp only [insZ_length, List.length_take]; omega
      · simp
    · simp only [insZ_length]; omega

theorem addsZ_two (n : Nat) (l ms : List Hz) : (addsZ n l ms).2 = ms.foldl (fun l h => (addZ n l h).2) l := by
  unfold addsZ
  generalize 0 = c
  induction ms generalizing c l with
  | nil => rfl
  | cons h ms ih => rw [List.foldl_cons, List.foldl_cons]; exact ih _ _

theorem mergeZ_flat (n : Nat) (ls : List (List Hz)) : mergeZ n ls = (addsZ n [] ls.flatten).2 := by
  rw [addsZ_two, List.foldl_flatten]
  unfold mergeZ
  simp only [addsZ_two]

theorem adds_len (N : Nat) (ms : List Hz) : (addsZ N [] ms).2.length ≤ ms.length := by
  rw [addsZ_two]
  have : ∀ l : List Hz, (ms.foldl (fun l h => (addZ N l h).2) l).length ≤ l.length + ms.length := by
    induction ms with
    | nil => simp
    | cons h ms ih =>
      intro l
      rw [List.foldl_cons, List.length_cons]
      have := ih (addZ N l h).2
      have := addZ_len N l h
      omega
  simpa using this []

theorem adds_take {n N : Nat} (hn : 1 ≤ n) (ms : List Hz) (hx : ∀ h ∈ ms, h.vec.length ≤ 1000000) (hN : ms.length ≤ N) (hN1 : 1 ≤ N) : (addsZ n [] ms).2 = (addsZ N [] ms).2.take n := by
  have : ∀ k, k ≤ ms.length → (addsZ n [] (ms.take k)).2 = (addsZ N [] (ms.take k)).2.take n := by
    intro k
    induction k with
    | zero => intro _; simp [addsZ_nil]
    | succ k ih =>
      intro hk
      have hk' : k < ms.length := by omega
      have g := addsZ_good (most := N) hN1 (GoodL.nil N) (ms.take k) fun h hh => hx h (List.mem_of_mem_take hh)
      have hl := adds_len N (ms.take k)
      rw [List.length_take] at hl
      rw [take_snoc ms k hk', addsZ_snoc, addsZ_snoc]
      simp only
      rw [ih (by omega)]
      exact add_take hn g.sorted g.ids (by omega) _
  have := this ms.length (Nat.le_refl _)
  rwa [List.take_length] at this

theorem There.add {N : Nat} {L : List Hz} (hd : Ids L) (hN : L.length < N) {g : Hz} (h : There L g) (x : Hz) : There (addZ N L x).2 g := by
  obtain ⟨y, hy, hyi, hyd⟩ := h
  rcases find_id (l := L) x with ⟨k, hk, hi⟩ | hi
  · rw [addZ_at hk hd hi]
    split
    · rename_i hlt
      by_cases hc : y.id = x.id
      · have : y = L[k] := ids_same hd hy (List.getElem_mem hk) (by rw [hc, hi])
        subst this
        exact ⟨x, insZ_mem.2 (.inl rfl), by rw [← hi]; exact hyi, by omega⟩
      · refine ⟨y, insZ_mem.2 (.inr ?_), hyi, hyd⟩
        obtain ⟨j, hj, rfl⟩ := List.mem_iff_getElem.1 hy
        exact List.mem_eraseIdx_iff_getElem.2 ⟨j, hj, fun e => by subst e; exact hc hi, rfl⟩
    · exact ⟨y, hy, hyi, hyd⟩
  · rw [addZ_new hi, if_neg (by omega)]
    exact ⟨y, insZ_mem.2 (.inr hy), hyi, hyd⟩

theorem There.self {N : Nat} {L : List Hz} (hd : Ids L) (hN : L.length < N) (x : Hz) : There (addZ N L x).2 x := by
  rcases find_id (l := L) x with ⟨k, hk, hi⟩ | hi
  · rw [addZ_at hk hd hi]
    split
    · exact ⟨x, insZ_mem.2 (.inl rfl), rfl, Int.le_refl _⟩
    · exact ⟨L[k], List.getElem_mem hk, hi, by omega⟩
  · rw [addZ_new hi, if_neg (by omega)]
    exact ⟨x, insZ_mem.2 (.inl rfl), rfl, Int.le_refl _⟩

theorem adds_there {N : Nat} (ms : List Hz) (hx : ∀ h ∈ ms, h.vec.length ≤ 1000000) (hN : ms.length ≤ N) (hN1 : 1 ≤ N) : ∀ g ∈ ms, There (addsZ N [] ms).2 g := by
  have : ∀ k, k ≤ ms.length → ∀ g ∈ ms.take k, There (addsZ N [] (ms.take k)).2 g := by
    intro k
    induction k with
    | zero => intro _ g hg; simp at hg
    | succ k ih =>
      intro hk g hg
      have hk' : k < ms.length := by omega
      have gd := addsZ_good (most := N) hN1 (GoodL.nil N) (ms.take k) fun h hh => hx h (List.mem_of_mem_take hh)
      have hl := adds_len N (ms.take k)
      rw [List.length_take] at hl
      rw [take_snoc ms k hk'] at hg ⊢
      rw [addsZ_snoc]
      simp only
      rcases List.mem_append.1 hg with hg | hg
      · exact (ih (by omega) g hg).add gd.ids (by omega) _
      · rw [List.mem_singleton.1 hg]
        exact There.self gd.ids (by omega) _
  have := this ms.length (Nat.le_refl _)
  rwa [List.take_length] at this

/-- two in order with the same hits are the same -/
theorem sorted_ext {l m : List Hz} (hl : Sorted l) (hm : Sorted m) (h : ∀ x, x ∈ l ↔ x ∈ m) : l = m := by
  induction l generalizing m with
  | nil =>
    cases m with
    | nil => rfl
    | cons b m => exact absurd ((h b).2 (by simp)) (by simp)
  | cons a l ih =>
    cases m with
    | nil => exact absurd ((h a).1 (by simp)) (by simp)
    | cons b m =>
      have h1 := List.pairwise_cons.1 hl
      have h2 := List.pairwise_cons.1 hm
      have hab : a = b := by
        rcases List.mem_cons.1 ((h a).1 (by simp)) with e | e
        · exact e
        · rcases List.mem_cons.1 ((h b).2 (by simp)) with e' | e'
          · exact e'.symm
          · have h3 := h1.1 b e'
            rw [near_asymm (h2.1 a e)] at h3; cases h3
      subst hab
      rw [ih h1.2 h2.2 fun x => ?_]
      constructor
      · intro hx
        rcases List.mem_cons.1 ((h x).1 (List.mem_cons_of_mem _ hx)) with e | e
        · subst e
          have := h1.1 x hx
          rw [near_irrefl] at this; cases this
        · exact e
      · intro hx
        rcases List.mem_cons.1 ((h x).2 (List.mem_cons_of_mem _ hx)) with e | e
        · subst e
          have := h2.1 x hx
          rw [near_irrefl] at this; cases this
        · exact e

theorem adds_same {N : Nat} (hN1 : 1 ≤ N) {ms ms' : List Hz} (hx : ∀ h ∈ ms, h.vec.length ≤ 1000000) (hN : ms.length ≤ N) (hN' : ms'.length ≤ N) (hdet : ∀ a ∈ ms, ∀ b ∈ ms, a.id = b.id → a.dist = b.dist → a = b) (hm : ∀ x, x ∈ ms ↔ x ∈ ms') :
    (addsZ N [] ms).2 = (addsZ N [] ms').2 := by
  have hx' : ∀ h ∈ ms', h.vec.length ≤ 1000000 := fun h hh => hx h ((hm h).2 hh)
  have g := addsZ_good (most := N) hN1 (GoodL.nil N) ms hx
  have g' := addsZ_good (most := N) hN1 (GoodL.nil N) ms' hx'
  have half : ∀ aa bs : List Hz, (∀ h ∈ aa, h.vec.length ≤ 1000000) → aa.length ≤ N → bs.length ≤ N → (∀ x, x ∈ aa ↔ x ∈ bs) → (∀ a ∈ aa, ∀ b ∈ aa, a.id = b.id → a.dist = b.dist → a = b) → ∀ x, x ∈ (addsZ N [] aa).2 → x ∈ (addsZ N [] bs).2 := by
    intro aa bs ha hn hn' he hdt x hxm
    have hb : ∀ h ∈ bs, h.vec.length ≤ 1000000 := fun h hh => ha h ((he h).2 hh)
    have ga := addsZ_good (most := N) hN1 (GoodL.nil N) aa ha
    have hxa : x ∈ aa := by
      rcases addsZ_mem hN1 (GoodL.nil N) ha hxm with h | h
      · simp at h
      · exact h
    obtain ⟨y, hy, hyi, hyd⟩ := adds_there bs hb hn' hN1 x ((he x).1 hxa)
    have hyb : y ∈ bs := by
      rcases addsZ_mem hN1 (GoodL.nil N) hb hy with h | h
      · simp at h
      · exact h
    have hya := (he y).2 hyb
    obtain ⟨z, hz, hzi, hzd⟩ := adds_there aa ha hn hN1 y hya
    have : z = x := ids_same ga.ids hz hxm (by rw [hzi, hyi])
    subst this
    have := hdt y hya z hxa hyi (by omega)
    subst this
    exact hy
  refine sorted_ext g.sorted g'.sorted fun x => ⟨half ms ms' hx hN hN' hm hdet x, half ms' ms hx' hN' hN (fun x => (hm x).symm) (fun a ha b hb => hdet a ((hm a).2 ha) b ((hm b).2 hb)) x⟩

end Go.Proofs.YtpjbkaibgajpcaaGreat

namespace Go.Proofs.YtpjbkaibgajpcaaGreat
open Go.RowKit
set_option maxRecDepth 20000

/-- how many are nearer -/
def aheadZ (l : List Hz) (h : Hz) : Nat := l.countP fun x => near x h

theorem ahead_at {m : List Hz} (hs : Sorted m) {i : Nat} (hi : i < m.length) : aheadZ m m[i] = i := by
  unfold aheadZ
  have e : m = m.take i ++ m.drop i := (List.take_append_drop i m).symm
  have h1 : (m.take i).countP (fun x => near x m[i]) = i := by
    rw [List.countP_eq_length.2 fun x hx => ?_, List.length_take]
    · omega
    · obtain ⟨j, hj, rfl⟩ := List.mem_iff_getElem.1 hx
      rw [List.length_take] at hj
      rw [List.getElem_take]
      exact List.pairwise_iff_getElem.1 hs j i _ hi (by omega)
  have h2 : (m.drop i).countP (fun x => near x m[i]) = 0 := by
    rw [List.countP_eq_zero]
    intro x hx
    obtain ⟨j, hj, rfl⟩ := List.mem_iff_getElem.1 hx
    rw [List.getElem_drop]
    rw [List.length_drop] at hj
    by_cases e : i = i + j
    · have e0 : j = 0 := by omega
      subst e0
      simp [near_irrefl]
    · have := List.pairwise_iff_getElem.1 hs i (i + j) hi (by omega) (by omega)
      simp [near_asymm this]
  calc m.countP (fun x => near x m[i]) = (m.take i ++ m.drop i).countP (fun x => near x m[i]) := by rw [← e]
    _ = i := by rw [List.countP_append, h1, h2]; rfl

theorem ahead_perm {l m : List Hz} (hp : m.Perm l) (h : Hz) : aheadZ l h = aheadZ m h := (hp.countP_eq _).symm

theorem ahead_of {l m : List Hz} (hs : Sorted m) (hp : m.Perm l) {j : Nat} (hj : j < l.length) : ∃ h : aheadZ l l[j] < m.length, m[aheadZ l l[j]] = l[j] := by
  obtain ⟨i, hi, e⟩ := List.mem_iff_getElem.1 (hp.mem_iff.2 (List.getElem_mem hj))
  have : aheadZ l l[j] = i := by rw [← e, ahead_perm hp, ahead_at hs hi]
  simp only [this]
  exact ⟨hi, e⟩

/-- what the document counts, up to k -/
theorem ahead_step {l : List Hz} (hd : Ids l) {i k : Nat} (hi : i < l.length) (hk : k < l.length) : ((l.take (k + 1)).countP fun x => near x l[i]) = ((l.take k).countP fun x => near x l[i]) + (if near l[k] l[i] = true then 1 else 0) := by
  rw [take_snoc l k hk, List.countP_append, List.countP_singleton]

theorem setAt_flat3 (rs : List Hv) (i : Nat) (hi : i < rs.length) (r : Hv) : setAt (flat3 rs) (i * 3) [.int .u64 r.id, .int .u64 r.dist, r.vec] = flat3 (rs.set i r) := by
  simp only [setAt]
  induction rs generalizing i with
  | nil => simp at hi
  | cons a rs ih =>
    cases i with
    | zero => simp [flat3]
    | succ i =>
      have := ih i (by simpa using hi)
      rw [show (i + 1) * 3 = i * 3 + 1 + 1 + 1 by omega]
      simpa [flat3] using this

theorem made_flat3 (n : Nat) : (madeCells (.agg #[.int .u64 0, .int .u64 0, .slice none 0 0] : Value).cells (n * 3)).toList = flat3 (List.replicate n ⟨0, 0, .slice none 0 0⟩) := by
  apply List.ext_getElem
  · simp [madeCells, flat3_length]
  · intro i h1 h2
    rw [flat3_length, List.length_replicate] at h2
    have hf := flat3_get (List.replicate n (⟨0, 0, .slice none 0 0⟩ : Hv)) (i / 3) (by simp; omega)
    simp only [List.getElem_replicate] at hf
    have hm : i % 3 = 0 ∨ i % 3 = 1 ∨ i % 3 = 2 := by omega
    have hc : ((.agg #[.int .u64 0, .int .u64 0, .slice none 0 0] : Value).cells).size = 3 := rfl
    have h2' : i < (flat3 (List.replicate n (⟨0, 0, .slice none 0 0⟩ : Hv))).length := by rw [flat3_length, List.length_replicate]; omega
    have hg : (flat3 (List.replicate n (⟨0, 0, .slice none 0 0⟩ : Hv)))[i]? = some (flat3 (List.replicate n (⟨0, 0, .slice none 0 0⟩ : Hv)))[i] := List.getElem?_eq_getElem h2'
    simp only [madeCells, Array.getElem_toList, Array.getElem_map, Array.getElem_range, hc]
    rcases hm with hm | hm | hm
    · have e : i / 3 * 3 = i := by omega
      rw [e, hg] at hf
      rw [Option.some.inj hf.1, hm]; rfl
    · have e : i / 3 * 3 + 1 = i := by omega
      rw [e, hg] at hf
      rw [Option.some.inj hf.2.1, hm]; rfl
    · have e : i / 3 * 3 + 1 + 1 = i := by omega
      rw [e, hg] at hf
      rw [Option.some.inj hf.2.2, hm]; rfl

/-- what was put so far stands where it belongs -/
def PutS (l : List Hz) (rl rs : List Hv) (k : Nat) : Prop := rs.length = l.length ∧ ∀ j (hj : j < l.length) (hj' : j < rl.length), j < k → rs[aheadZ l l[j]]? = some rl[j]

theorem PutS.next {l m : List Hz} {rl rs : List Hv} {k : Nat} (hs : Sorted m) (hp : m.Perm l) (hd : Ids l) (h : PutS l rl rs k) (hk : k < l.length) (hk' : k < rl.length) : PutS l rl (rs.set (aheadZ l l[k]) rl[k]) (k + 1) := by
  obtain ⟨h1, h2⟩ := h
  refine ⟨by simp [h1], fun j hj hj' hjk => ?_⟩
  obtain ⟨a1, a2⟩ := ahead_of hs hp hk
  by_cases e : j = k
  · subst e
    rw [List.getElem?_set_self (by rw [h1, ← hp.length_eq]; exact a1)]
  · have hne : aheadZ l l[k] ≠ aheadZ l l[j] := by
      intro e'
      obtain ⟨b1, b2⟩ := ahead_of hs hp hj
      have e3 : l[j] = l[k] := by rw [← b2, ← a2]; congr 1; exact e'.symm
      rcases Nat.lt_or_ge j k with h | h
      · exact List.pairwise_iff_getElem.1 hd j k hj hk h (by rw [e3])
      · exact List.pairwise_iff_getElem.1 hd k j hk hj (by omega) (by rw [e3])
    rw [List.getElem?_set_ne hne]
    exact h2 j hj hj' (by omega)

theorem PutS.rows {w : World} {F : Nat → Prop} {l m : List Hz} {rl rs : List Hv} (hs : Sorted m) (hp : m.Perm l) (h : PutS l rl rs l.length) (hr : Rows3 w F rl l) : Rows3 w F rs m := by
  obtain ⟨h1, h2⟩ := h
  refine ⟨by rw [h1, hp.length_eq], fun i i1 i2 => ?_⟩
  obtain ⟨j, hj, e⟩ := List.mem_iff_getElem.1 (hp.mem_iff.1 (List.getElem_mem i2))
  have hj' : j < rl.length := by rw [hr.len]; exact hj
  have h3 := h2 j hj hj' hj
  rw [e, ahead_perm hp, ahead_at hs i2, List.getElem?_eq_getElem i1] at h3
  rw [Option.some.inj h3, ← e]
  exact hr.each j hj' hj

end Go.Proofs.YtpjbkaibgajpcaaGreat
