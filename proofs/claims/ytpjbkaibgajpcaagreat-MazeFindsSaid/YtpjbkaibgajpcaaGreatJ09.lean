/- best's law: the document's example. best's law: BestMany. best: lists are merged. best, the plain law: of hits with IDs of their own the nearest few are the first of all in order. How a law's contract closes its given row: the answer true, each argument as it read, nothing old turned. How arguments with depth read: slices of numbers inside structs, slices of pairs. An argument that is a slice of hits. best's law: BestTwice. best, the plain law: with a bound is the first of without; the order in which hits come does not matter. The document's Sort: hits in order. -/
import Derived.Test.YtpjbkaibgajpcaaGreatJ08
import Derived.Test.YtpjbkaibgajpcaaGreatJ01
import Derived.ProofKit
import Derived.Deep.Slices
import Derived.Deep.Strs
namespace Go.Proofs.YtpjbkaibgajpcaaGreat
open Go.RowKit
set_option maxRecDepth 20000

end Go.Proofs.YtpjbkaibgajpcaaGreat

namespace Go.Proofs.YtpjbkaibgajpcaaGreat
open Go.RowKit
set_option maxRecDepth 20000

end Go.Proofs.YtpjbkaibgajpcaaGreat

namespace Go.Proofs.YtpjbkaibgajpcaaGreat
open Go.RowKit
set_option maxRecDepth 20000

def ListsF (w : World) (E : Nat → Prop) (v : Value) (ls : List (List Hz)) : Prop :=
  ∃ p cap, v = .slice p ls.length cap ∧ ls.length ≤ cap ∧ cap ≤ 9223372036854775807 ∧ (p = none → cap = 0) ∧
    ∀ i (hi : i < ls.length), ∃ b off u, p = some ⟨b, off, none⟩ ∧ E b ∧ w.cell? ⟨b, off + i, none⟩ = some u ∧ HitsF w E u ls[i]

theorem ListsF.agree {w w' : World} {E : Nat → Prop} {v : Value} {ls : List (List Hz)} (h : ListsF w E v ls) (ha : Agree E w w') : ListsF w' E v ls := by
  obtain ⟨p, cap, hv, h1, h2, h3, h4⟩ := h
  refine ⟨p, cap, hv, h1, h2, h3, fun i hi => ?_⟩
  obtain ⟨b, off, u, hp, hf, c0, hn⟩ := h4 i hi
  exact ⟨b, off, u, hp, hf, by rw [ha.cell hf]; exact c0, hn.agree ha⟩

theorem ListsF.elem {w : World} {E : Nat → Prop} {p : Option Addr} {n cap : Nat} {ls : List (List Hz)} (h : ListsF w E (.slice p n cap) ls) {i : Nat} (hi : i < ls.length) :
    ∃ b off q qc, p = some ⟨b, off, none⟩ ∧ w.cell? ⟨b, off + i, none⟩ = some (.slice q ls[i].length qc) ∧ HitsF w E (.slice q ls[i].length qc) ls[i] := by
  obtain ⟨p', cap', hv, _, _, _, h⟩ := h
  simp only [Value.slice.injEq] at hv
  obtain ⟨rfl, _, _⟩ := hv
  obtain ⟨b, off, u, hp, -, c0, hn⟩ := h i hi
  obtain ⟨q, qc, rfl, -, -, -, -⟩ := id hn
  exact ⟨b, off, q, qc, hp, c0, hn⟩

end Go.Proofs.YtpjbkaibgajpcaaGreat

namespace Go.Proofs.YtpjbkaibgajpcaaGreat
open Go.RowKit
set_option maxRecDepth 20000

theorem addZ_new {n : Nat} {l : List Hz} {h : Hz} (hi : ∀ x ∈ l, x.id ≠ h.id) : addZ n l h = if l.length = n then (if near h (l.getD (n - 1) h) = true then (true, insZ (l.take (n - 1)) h) else (false, l)) else (true, insZ l h) := by
  unfold addZ
  rw [find_none fun j hj => hi _ (List.getElem_mem hj)]

end Go.Proofs.YtpjbkaibgajpcaaGreat

namespace Go.Proofs.YtpjbkaibgajpcaaGreat
open Go.ChangeShapes Go.WideShapes Go.ChangeAt Go.RowKit
set_option maxRecDepth 20000

theorem own : ownKnob Tryz.prog.godebug = none := by kernel_rfl
theorem laidOut : laidOutB Tryz.prog = true := by kernel_rfl

def Law (f : FuncId) (args : Array Value) (w : World) : Prop := Calls Tryz.prog f args w fun e w' => e = .returned (.bool true) ∧ Below w.heap.size w w'

theorem trodAll_below {H : Type} {enc : TypeId × Value → H} {W W' : World} (hb : Below W.heap.size W W') : ∀ (ts : List TypeId) (vs : List Value) (ds : List (DataW H)) (ps : List MemPlace),
    (∀ t ∈ ts, Tryz.prog.readableRec t = true ∧ t < Tryz.prog.types.size) → DataW.TrodAll enc Tryz.prog W 0 (fun _ => true) true ts vs ds ps → (∀ x ∈ ps, x.block < W.heap.size) →
    DataW.TrodAll enc Tryz.prog W' 0 (fun b => decide (b < W.heap.size)) true ts vs ds ps
  | [], [], [], _, _, h, _ => h
  | t :: ts, v :: vs, d :: ds, ps, hr, h, hlt => by
    obtain ⟨p, q, h1, h2, rfl⟩ := h
    have ht := hr t (by simp)
    exact ⟨p, q, Below.trod laidOut ht.1 ht.2 h1 hb fun x hx => hlt x (by simp [hx]), trodAll_below hb ts vs ds q (fun t' ht' => hr t' (by simp [ht'])) h2 fun x hx => hlt x (by simp [hx]), rfl⟩
  | [], _ :: _, _, _, _, h, _ => h.elim
  | [], [], _ :: _, _, _, h, _ => h.elim
  | _ :: _, [], _, _, _, h, _ => h.elim
  | _ :: _, _ :: _, [], _, _, h, _ => h.elim

theorem law_post {H : Type} {enc : TypeId × Value → H} {f : Func} {s : ChangeSpec} {W W' : World} {args : Array Value} {ds : List (DataW H)} {before : List MemPlace}
    (hW : DataW.Whole enc Tryz.prog f.params.toList s.vars false W args.toList ds [] before) (hvars : s.vars = []) (hres : f.resultTypes = #[4])
    (h1 : (s.fn H (ds ++ [])).results = [.lit (.bool true)]) (h2 : (s.fn H (ds ++ [])).args = ds) (h3 : (s.fn H (ds ++ [])).vars = [])
    (hr : ∀ t ∈ f.params.toList, Tryz.prog.readableRec t = true ∧ t < Tryz.prog.types.size) (hb : Below W.heap.size W W') :
    s.post enc Tryz.prog f false true false false W args (.bool true) W' := by
  have hW' := hW
  obtain ⟨p, q, hA, hV, rfl, _, _⟩ := hW
  rw [hvars] at hV
  obtain ⟨_, rfl⟩ := trodVars_none hV
  refine ⟨ds, [], p ++ [], [], p, [], hW', ?_, ?_, ?_, hb.frame _, fun h => by cases h⟩
  · rw [h1, hres]; exact trodAll_mk1 (shut_bool Tryz.underlying4 true)
  · rw [h2]; exact trodAll_below hb _ _ _ _ hr hA fun x hx => hW'.lt x (by simp [hx])
  · rw [h3, hvars]; rfl

set_option maxRecDepth 100000 in
theorem open_nums {H : Type} {enc : TypeId × Value → H} {W : World} {base t e : TypeId} {k : IntKind} {v : Value} {d : DataW H} {ps : List MemPlace}
    (ht : Tryz.prog.underlying t = some (.slice e)) (he : Tryz.prog.underlying e = some (.int k)) (hc : Tryz.prog.cellsOf e = 1)
    (hok : Value.okWide Tryz.prog W .any base t v) (h : DataW.Trod enc Tryz.prog W 0 (fun _ => true) true t v d ps) :
    ∃ xs : List Int, Nums W k v xs ∧ ∀ x ∈ xs, (Lit.int k x).wf = true := by
  obtain ⟨a0, len, cap, rfl⟩ := okWide_slice ht hok
  obtain ⟨fuel, hf⟩ := h
  rcases open_ints ht he hc hf with ⟨hcs, hx⟩ | ⟨a, len', cap', zs, hcs, _, hl, hm, hz, hx, hcell, hwz⟩
  · simp [Value.cells] at hcs
    obtain ⟨rfl, rfl, rfl⟩ := hcs
    exact ⟨[], Nums.mk (xs := []) (by simp) (by simp) (by simp) (by simp), by simp⟩
  · simp [Value.cells] at hcs
    obtain ⟨rfl, rfl, rfl⟩ := hcs
    simp only [if_true] at hz
    have hlen : (zs.take len).length = len := by simp; omega
    refine ⟨zs.take len, ?_, fun x hx => hwz x (List.mem_of_mem_take hx)⟩
    have key : Nums W k (.slice (some a) (zs.take len).length cap) (zs.take len) := by
      refine Nums.mk (by omega) (by simpa [maxLen] using hm) (by simp) fun i hi => ?_
      have hi' : i < zs.length := by omega
      have := hcell i hi'
      obtain ⟨b, off, spot⟩ := a
      obtain rfl : spot = none := by
        simpa [Addr.add] using World.cell?_spot (hcell 0 (by omega))
      rw [Addr.add_lit] at this
      refine ⟨b, off, rfl, ?_⟩
      rw [this]
      simp [List.getD, List.getElem?_eq_getElem hi']
    rw [hlen] at key
    exact key

end Go.Proofs.YtpjbkaibgajpcaaGreat

namespace Go.Proofs.YtpjbkaibgajpcaaGreat
open Go.ChangeShapes Go.WideShapes Go.ChangeAt Go.RowKit Go.Deep
set_option maxRecDepth 20000

theorem exists_list {α : Type} (n : Nat) {p : Nat → α → Prop} (h : ∀ i, i < n → ∃ x, p i x) : ∃ l : List α, l.length = n ∧ ∀ i (hi : i < l.length), p i l[i] := by
  induction n with
  | zero => exact ⟨[], rfl, fun i hi => absurd hi (by simp)⟩
  | succ n ih =>
    obtain ⟨l, hl, hp⟩ := ih fun i hi => h i (by omega)
    obtain ⟨x, hx⟩ := h n (by omega)
    refine ⟨l ++ [x], by simp [hl], fun i hi => ?_⟩
    simp only [List.length_append, List.length_cons, List.length_nil] at hi
    rcases Nat.lt_or_ge i l.length with h1 | h1
    · rw [List.getElem_append_left h1]; exact hp i h1
    · have e : i = n := by omega
      subst e
      rw [List.getElem_append_right (by omega)]
      simp [hl, hx]

section
variable {H : Type} {enc : TypeId × Value → H} {W : World}

theorem nums_of_trod {t e : TypeId} {k : IntKind} {fuel : Nat} {cs : List Value} {x : DataW H × List MemPlace}
    (ht : Tryz.prog.underlying t = some (.slice e)) (he : Tryz.prog.underlying e = some (.int k)) (hc : Tryz.prog.cellsOf e = 1)
    (hf : DataW.trod enc Tryz.prog W 0 (fun _ => true) true fuel t cs = some x) : ∃ v xs, cs = [v] ∧ Nums W k v xs ∧ ∀ x ∈ xs, (Lit.int k x).wf = true := by
  rcases open_ints ht he hc hf with ⟨hcs, hx⟩ | ⟨a, len', cap', zs, hcs, _, hl, hm, hz, hx, hcell, hwz⟩
  · exact ⟨_, [], hcs, Nums.mk (xs := []) (by simp) (by simp) (by simp) (by simp), by simp⟩
  · simp only [if_true] at hz
    have hlen : (zs.take len').length = len' := by simp; omega
    refine ⟨_, zs.take len', hcs, ?_, fun x hx => hwz x (List.mem_of_mem_take hx)⟩
    have key : Nums W k (.slice (some a) (zs.take len').length cap') (zs.take len') := by
      refine Nums.mk (by omega) (by simpa [maxLen] using hm) (by simp) fun i hi => ?_
      have hi' : i < zs.length := by omega
      have := hcell i hi'
      obtain ⟨b, off, spot⟩ := a
      obtain rfl : spot = none := by
        simpa [Addr.add] using World.cell?_spot (hcell 0 (by omega))
      rw [Addr.add_lit] at this
      refine ⟨b, off, rfl, ?_⟩
      rw [this]
      simp [List.getD, List.getElem?_eq_getElem hi']
    rw [hlen] at key
    exact key

theorem cells_two {a : Addr} {cs : List Value} (h : W.cells? 0 a 2 = some cs) : ∃ c0 c1, cs = [c0, c1] ∧ W.cell? (a.add 0) = some c0 ∧ W.cell? (a.add 1) = some c1 := by
  unfold World.cells? at h
  simp only [Nat.zero_le, if_true, List.range_succ, List.range_zero, List.nil_append, List.cons_append, List.mapM_cons, List.mapM_nil] at h
  cases h0 : W.cell? (a.add 0) with
  | none => rw [h0] at h; simp at h
  | some c0 =>
    cases h1 : W.cell? (a.add 1) with
    | none => rw [h0, h1] at h; simp at h
    | some c1 =>
      rw [h0, h1] at h
      simp at h
      exact ⟨c0, c1, h.symm, rfl, rfl⟩

theorem recs_of_trod {t e e0 e1 e2 : TypeId} {f0 f1 : Field} {fuel : Nat} {cs : List Value} {x : DataW H × List MemPlace}
    (ht : Tryz.prog.underlying t = some (.slice e)) (he : Tryz.prog.underlying e = some (.struct #[f0, f1])) (hce : Tryz.prog.cellsOf e = 2)
    (h0 : f0.type = e0 ∧ f0.offset = 0) (hu0 : Tryz.prog.underlying e0 = some (.int .u64)) (hc0 : Tryz.prog.cellsOf e0 = 1)
    (h1 : f1.type = e1 ∧ f1.offset = 1) (hu1 : Tryz.prog.underlying e1 = some (.slice e2)) (hc1 : Tryz.prog.cellsOf e1 = 1) (hu2 : Tryz.prog.underlying e2 = some (.int .i32)) (hc2 : Tryz.prog.cellsOf e2 = 1)
    (hf : DataW.trod enc Tryz.prog W 0 (fun _ => true) true fuel t cs = some x) :
    ∃ v l, cs = [v] ∧ Recs W v l ∧ ∀ r ∈ l, (Lit.int .u64 r.1).wf = true ∧ ∀ y ∈ r.2, (Lit.int .i32 y).wf = true := by
  rcases open_slice ht hf with ⟨hcs, _⟩ | ⟨a, len, cap, m, n, D, Pl, hcs, _, hl, hm, hmm, _, hel⟩
  · exact ⟨_, [], hcs, ⟨none, 0, rfl, by simp, by simp, by simp, fun i hi => absurd hi (by simp)⟩, by simp⟩
  · simp only [if_true] at hmm
    subst hmm
    rw [hce] at hel
    have each : ∀ i, i < len → ∃ r : Int × List Int, ∃ u, W.cell? (a.add (i * 2)) = some (.int .u64 r.1) ∧ W.cell? (a.add (i * 2 + 1)) = some u ∧ Nums W .i32 u r.2 ∧ (Lit.int .u64 r.1).wf = true ∧ ∀ y ∈ r.2, (Lit.int .i32 y).wf = true := by
      intro i hi
      obtain ⟨cs', hcs', htr⟩ := hel i (by omega)
      obtain ⟨c0, c1, rfl, g0, g1⟩ := cells_two hcs'
      obtain ⟨y0, y1, n', _, _, t0, t1⟩ := trod_struct2 he htr
      rw [h0.1, h0.2, hc0] at t0
      rw [h1.1, h1.2, hc1] at t1
      obtain ⟨id, e0', _, w0⟩ := DataW.trod_int hu0 t0
      obtain ⟨u, xs, e1', hn, wx⟩ := nums_of_trod hu1 hu2 hc2 t1
      simp at e0' e1'
      subst e0' e1'
      rw [add_add] at g0 g1
      exact ⟨(id, xs), c1, by simpa using g0, g1, hn, w0, wx⟩
    obtain ⟨l, hll, hp⟩ := exists_list len each
    refine ⟨_, l, hcs, ⟨some a, m, by rw [hll], by omega, by simpa [maxLen] using hm, by simp, fun i hi => ?_⟩, fun r hr => ?_⟩
    · obtain ⟨u, g0, g1, hn, _⟩ := hp i hi
      have h00 := (hp 0 (by omega)).choose_spec.1
      obtain ⟨b, off, spot⟩ := a
      obtain rfl : spot = none := by
        simpa [Addr.add] using World.cell?_spot h00
      rw [Addr.add_lit] at g0 g1
      exact ⟨b, off, u, rfl, g0, by rw [Nat.add_assoc]; exact g1, hn⟩
    · obtain ⟨i, hi, rfl⟩ := List.mem_iff_getElem.1 hr
      obtain ⟨u, _, _, _, w0, wx⟩ := hp i hi
      exact ⟨w0, wx⟩

end

end Go.Proofs.YtpjbkaibgajpcaaGreat

namespace Go.Proofs.YtpjbkaibgajpcaaGreat
open Go.ChangeShapes Go.WideShapes Go.ChangeAt Go.RowKit Go.Deep
set_option maxRecDepth 20000

section
variable {H : Type} {enc : TypeId × Value → H} {W : World}

end

end Go.Proofs.YtpjbkaibgajpcaaGreat

namespace Go.Proofs.YtpjbkaibgajpcaaGreat
open Go.RowKit
set_option maxRecDepth 20000

def There (m : List Hz) (h : Hz) : Prop := ∃ x ∈ m, x.id = h.id ∧ x.dist ≤ h.dist

theorem ids_same {l : List Hz} (hd : Ids l) {x y : Hz} (hx : x ∈ l) (hy : y ∈ l) (h : x.id = y.id) : x = y := by
  obtain ⟨i, hi, rfl⟩ := List.mem_iff_getElem.1 hx
  obtain ⟨j, hj, rfl⟩ := List.mem_iff_getElem.1 hy
  rcases Nat.lt_trichotomy i j with h1 | rfl | h1
  · exact absurd h (List.pairwise_iff_getElem.1 hd i j hi hj h1)
  · rfl
  · exact absurd h.symm (List.pairwise_iff_getElem.1 hd j i hj hi h1)

end Go.Proofs.YtpjbkaibgajpcaaGreat

namespace Go.Proofs.YtpjbkaibgajpcaaGreat
open Go.RowKit
set_option maxRecDepth 20000

theorem addZ_at {n : Nat} {l : List Hz} {h : Hz} {k : Nat} (hk : k < l.length) (hd : Ids l) (hi : l[k].id = h.id) : addZ n l h = if h.dist < l[k].dist then (true, insZ (l.eraseIdx k) h) else (false, l) := by
  unfold addZ
  rw [find_some hk (fun j hj hjk => by rw [← hi]; exact List.pairwise_iff_getElem.1 hd j k _ _ hjk) hi]
  simp only
  rw [show l.getD k h = l[k] from by simp [List.getD, List.getElem?_eq_getElem hk]]

theorem find_id {l : List Hz} (h : Hz) : (∃ k, ∃ hk : k < l.length, l[k].id = h.id) ∨ ∀ x ∈ l, x.id ≠ h.id := by
  by_cases hx : ∃ x ∈ l, x.id = h.id
  · obtain ⟨x, hx, e⟩ := hx
    obtain ⟨k, hk, rfl⟩ := List.mem_iff_getElem.1 hx
    exact .inl ⟨k, hk, e⟩
  · exact .inr fun x hm e => hx ⟨x, hm, e⟩

theorem addZ_len (n : Nat) (l : List Hz) (h : Hz) : (addZ n l h).2.length ≤ l.length + 1 := by
  unfold addZ
  split
  · split
    · have := List.length_eraseIdx_le l (by assumption)
      simp only [insZ_length]; omega
    · simp
  · split
    · split
      · simp only [insZ_length, List.length_take]; omega
      · simp
    · simp only [insZ_length]; omega

theorem addsZ_two (n : Nat) (l ms : List Hz) : (addsZ n l ms).2 = ms.foldl (fun l h => (addZ n l h).2) l := by
  unfold addsZ
  generalize 0 = c
  induction ms generalizing c l with
  | nil => rfl
  | cons h ms ih => rw [List.foldl_cons, List.foldl_cons]; exact ih _ _

theorem adds_len (N : Nat) (ms : List Hz) : (addsZ N [] ms).2.length ≤ ms.length := by
  rw [addsZ_two]
  have : ∀ l : List Hz, (ms.foldl (fun l h => (addZ N l h).2) l).length ≤ l.length + ms.length := by
    induction ms with
    | nil => simp
    | cons h ms ih =>
      intro l
      rw [List.foldl_cons, List.length_cons]
      have := ih (addZ N l h).2
      have := addZ_len N l h
      omega
  simpa using this []

theorem There.add {N : Nat} {L : List Hz} (hd : Ids L) (hN : L.length < N) {g : Hz} (h : There L g) (x : Hz) : There (addZ N L x).2 g := by
  obtain ⟨y, hy, hyi, hyd⟩ := h
  rcases find_id (l := L) x with ⟨k, hk, hi⟩ | hi
  · rw [addZ_at hk hd hi]
    split
    · rename_i hlt
      by_cases hc : y.id = x.id
      · have : y = L[k] := ids_same hd hy (List.getElem_mem hk) (by rw [hc, hi])
        subst this
        exact ⟨x, insZ_mem.2 (.inl rfl), by rw [← hi]; exact hyi, by omega⟩
      · refine ⟨y, insZ_mem.2 (.inr ?_), hyi, hyd⟩
        obtain ⟨j, hj, rfl⟩ := List.mem_iff_getElem.1 hy
        exact List.mem_eraseIdx_iff_getElem.2 ⟨j, hj, fun e => by subst e; exact hc hi, rfl⟩
    · exact ⟨y, hy, hyi, hyd⟩
  · rw [addZ_new hi, if_neg (by omega)]
    exact ⟨y, insZ_mem.2 (.inr hy), hyi, hyd⟩

theorem There.self {N : Nat} {L : List Hz} (hd : Ids L) (hN : L.length < N) (x : Hz) : There (addZ N L x).2 x := by
  rcases find_id (l := L) x with ⟨k, hk, hi⟩ | hi
  · rw [addZ_at hk hd hi]
    split
    · exact ⟨x, insZ_mem.2 (.inl rfl), rfl, Int.le_refl _⟩
    · exact ⟨L[k], List.getElem_mem hk, hi, by omega⟩
  · rw [addZ_new hi, if_neg (by omega)]
    exact ⟨x, insZ_mem.2 (.inl rfl), rfl, Int.le_refl _⟩

end Go.Proofs.YtpjbkaibgajpcaaGreat

namespace Go.Proofs.YtpjbkaibgajpcaaGreat
open Go.RowKit
set_option maxRecDepth 20000

def aheadZ (l : List Hz) (h : Hz) : Nat := l.countP fun x => near x h

theorem ahead_at {m : List Hz} (hs : Sorted m) {i : Nat} (hi : i < m.length) : aheadZ m m[i] = i := by
  unfold aheadZ
  have e : m = m.take i ++ m.drop i := (List.take_append_drop i m).symm
  have h1 : (m.take i).countP (fun x => near x m[i]) = i := by
    rw [List.countP_eq_length.2 fun x hx => ?_, List.length_take]
    · omega
    · obtain ⟨j, hj, rfl⟩ := List.mem_iff_getElem.1 hx
      rw [List.length_take] at hj
      rw [List.getElem_take]
      exact List.pairwise_iff_getElem.1 hs j i _ hi (by omega)
  have h2 : (m.drop i).countP (fun x => near x m[i]) = 0 := by
    rw [List.countP_eq_zero]
    intro x hx
    obtain ⟨j, hj, rfl⟩ := List.mem_iff_getElem.1 hx
    rw [List.getElem_drop]
    rw [List.length_drop] at hj
    by_cases e : i = i + j
    · have e0 : j = 0 := by omega
      subst e0
      simp [near_irrefl]
    · have := List.pairwise_iff_getElem.1 hs i (i + j) hi (by omega) (by omega)
      simp [near_asymm this]
  calc m.countP (fun x => near x m[i]) = (m.take i ++ m.drop i).countP (fun x => near x m[i]) := by rw [← e]
    _ = i := by rw [List.countP_append, h1, h2]; rfl

theorem ahead_perm {l m : List Hz} (hp : m.Perm l) (h : Hz) : aheadZ l h = aheadZ m h := (hp.countP_eq _).symm

theorem ahead_of {l m : List Hz} (hs : Sorted m) (hp : m.Perm l) {j : Nat} (hj : j < l.length) : ∃ h : aheadZ l l[j] < m.length, m[aheadZ l l[j]] = l[j] := by
  obtain ⟨i, hi, e⟩ := List.mem_iff_getElem.1 (hp.mem_iff.2 (List.getElem_mem hj))
  have : aheadZ l l[j] = i := by rw [← e, ahead_perm hp, ahead_at hs hi]
  simp only [this]
  exact ⟨hi, e⟩

theorem ahead_step {l : List Hz} (_hd : Ids l) {i k : Nat} (hi : i < l.length) (hk : k < l.length) : ((l.take (k + 1)).countP fun x => near x l[i]) = ((l.take k).countP fun x => near x l[i]) + (if near l[k] l[i] = true then 1 else 0) := by
  rw [take_snoc l k hk, List.countP_append, List.countP_singleton]

theorem setAt_flat3 (rs : List Hv) (i : Nat) (hi : i < rs.length) (r : Hv) : setAt (flat3 rs) (i * 3) [.int .u64 r.id, .int .u64 r.dist, r.vec] = flat3 (rs.set i r) := by
  simp only [setAt]
  induction rs generalizing i with
  | nil => simp at hi
  | cons a rs ih =>
    cases i with
    | zero => simp [flat3]
    | succ i =>
      have := ih i (by simpa using hi)
      rw [show (i + 1) * 3 = i * 3 + 1 + 1 + 1 by omega]
      simpa [flat3] using this

theorem made_flat3 (n : Nat) : (madeCells (.agg #[.int .u64 0, .int .u64 0, .slice none 0 0] : Value).cells (n * 3)).toList = flat3 (List.replicate n ⟨0, 0, .slice none 0 0⟩) := by
  apply List.ext_getElem
  · simp [madeCells, flat3_length]
  · intro i h1 h2
    rw [flat3_length, List.length_replicate] at h2
    have hf := flat3_get (List.replicate n (⟨0, 0, .slice none 0 0⟩ : Hv)) (i / 3) (by simp; omega)
    simp only [List.getElem_replicate] at hf
    have hm : i % 3 = 0 ∨ i % 3 = 1 ∨ i % 3 = 2 := by omega
    have hc : ((.agg #[.int .u64 0, .int .u64 0, .slice none 0 0] : Value).cells).size = 3 := rfl
    have h2' : i < (flat3 (List.replicate n (⟨0, 0, .slice none 0 0⟩ : Hv))).length := by rw [flat3_length, List.length_replicate]; omega
    have hg : (flat3 (List.replicate n (⟨0, 0, .slice none 0 0⟩ : Hv)))[i]? = some (flat3 (List.replicate n (⟨0, 0, .slice none 0 0⟩ : Hv)))[i] := List.getElem?_eq_getElem h2'
    simp only [madeCells, Array.getElem_toList, Array.getElem_map, Array.getElem_range, hc]
    rcases hm with hm | hm | hm
    · have e : i / 3 * 3 = i := by omega
      rw [e, hg] at hf
      rw [Option.some.inj hf.1, hm]; rfl
    · have e : i / 3 * 3 + 1 = i := by omega
      rw [e, hg] at hf
      rw [Option.some.inj hf.2.1, hm]; rfl
    · have e : i / 3 * 3 + 1 + 1 = i := by omega
      rw [e, hg] at hf
      rw [Option.some.inj hf.2.2, hm]; rfl

def PutS (l : List Hz) (rl rs : List Hv) (k : Nat) : Prop := rs.length = l.length ∧ ∀ j (hj : j < l.length) (hj' : j < rl.length), j < k → rs[aheadZ l l[j]]? = some rl[j]

theorem PutS.next {l m : List Hz} {rl rs : List Hv} {k : Nat} (hs : Sorted m) (hp : m.Perm l) (hd : Ids l) (h : PutS l rl rs k) (hk : k < l.length) (hk' : k < rl.length) : PutS l rl (rs.set (aheadZ l l[k]) rl[k]) (k + 1) := by
  obtain ⟨h1, h2⟩ := h
  refine ⟨by simp [h1], fun j hj hj' hjk => ?_⟩
  obtain ⟨a1, a2⟩ := ahead_of hs hp hk
  by_cases e : j = k
  · subst e
    rw [List.getElem?_set_self (by rw [h1, ← hp.length_eq]; exact a1)]
  · have hne : aheadZ l l[k] ≠ aheadZ l l[j] := by
      intro e'
      obtain ⟨b1, b2⟩ := ahead_of hs hp hj
      have e3 : l[j] = l[k] := by rw [← b2, ← a2]; congr 1; exact e'.symm
      rcases Nat.lt_or_ge j k with h | h
      · exact List.pairwise_iff_getElem.1 hd j k hj hk h (by rw [e3])
      · exact List.pairwise_iff_getElem.1 hd k j hk hj (by omega) (by rw [e3])
    rw [List.getElem?_set_ne hne]
    exact h2 j hj hj' (by omega)

theorem PutS.rows {w : World} {F : Nat → Prop} {l m : List Hz} {rl rs : List Hv} (hs : Sorted m) (hp : m.Perm l) (h : PutS l rl rs l.length) (hr : Rows3 w F rl l) : Rows3 w F rs m := by
  obtain ⟨h1, h2⟩ := h
  refine ⟨by rw [h1, hp.length_eq], fun i i1 i2 => ?_⟩
  obtain ⟨j, hj, e⟩ := List.mem_iff_getElem.1 (hp.mem_iff.1 (List.getElem_mem i2))
  have hj' : j < rl.length := by rw [hr.len]; exact hj
  have h3 := h2 j hj hj' hj
  rw [e, ahead_perm hp, ahead_at hs i2, List.getElem?_eq_getElem i1] at h3
  rw [Option.some.inj h3, ← e]
  exact hr.each j hj' hj

end Go.Proofs.YtpjbkaibgajpcaaGreat
