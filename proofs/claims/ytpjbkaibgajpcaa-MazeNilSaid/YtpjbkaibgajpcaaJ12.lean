/-
  best: lists are merged.
  best, the plain law: of hits with IDs of their own the nearest few are the first of all in order.
  How a law's contract closes its given row: the answer true, each argument as it read, nothing old turned.
  How arguments with depth read: slices of numbers inside structs, slices of pairs.
  An argument that is a slice of hits.
  best's law: BestTwice.
  best, the plain law: with a bound is the first of without; the order in which hits come does not matter.
  The document's Sort: hits in order.
-/
import Derived.Test.YtpjbkaibgajpcaaJ11
import Derived.Test.YtpjbkaibgajpcaaJ01
import Derived.ProofKit
import Derived.Deep.Slices
import Derived.Deep.Strs
namespace Go.Proofs.Ytpjbkaibgajpcaa
open Go.RowKit

/-- a slice of slices of hits, and all that it reaches, lies in E -/
def ListsF (w : World) (E : Nat → Prop) (v : Value) (ls : List (List Hz)) : Prop :=
  ∃ p cap, v = .slice p ls.length cap ∧ ls.length ≤ cap ∧ cap ≤ 9223372036854775807 ∧ (p = none → cap = 0) ∧
    ∀ i (hi : i < ls.length), ∃ b off u, p = some ⟨b, off, none⟩ ∧ E b ∧ w.cell? ⟨b, off + i, none⟩ = some u ∧ HitsF w E u ls[i]

theorem ListsF.agree {w w' : World} {E : Nat → Prop} {v : Value} {ls : List (List Hz)} (h : ListsF w E v ls) (ha : Agree E w w') : ListsF w' E v ls := by
  obtain ⟨p, cap, hv, h1, h2, h3, h4⟩ := h
  refine ⟨p, cap, hv, h1, h2, h3, fun i hi => ?_⟩
  obtain ⟨b, off, u, hp, hf, c0, hn⟩ := h4 i hi
  exact ⟨b, off, u, hp, hf, by rw [ha.cell hf]; exact c0, hn.agree ha⟩

theorem ListsF.elem {w : World} {E : Nat → Prop} {p : Option Addr} {n cap : Nat} {ls : List (List Hz)} (h : ListsF w E (.slice p n cap) ls) {i : Nat} (hi : i < ls.length) :
    ∃ b off q qc, p = some ⟨b, off, none⟩ ∧ w.cell? ⟨b, off + i, none⟩ = some (.slice q ls[i].length qc) ∧ HitsF w E (.slice q ls[i].length qc) ls[i] := by
  obtain ⟨p', cap', hv, _, _, _, h⟩ := h
  simp only [Value.slice.injEq] at hv
  obtain ⟨rfl, _, _⟩ := hv
  obtain ⟨b, off, u, hp, -, c0, hn⟩ := h i hi
  obtain ⟨q, qc, rfl, -, -, -, -⟩ := id hn
  exact ⟨b, off, q, qc, hp, c0, hn⟩

end Go.Proofs.Ytpjbkaibgajpcaa

namespace Go.Proofs.Ytpjbkaibgajpcaa
open Go.RowKit

theorem addZ_new {n : Nat} {l : List Hz} {h : Hz} (hi : ∀ x ∈ l, x.id ≠ h.id) : addZ n l h = if l.length = n then (if near h (l.getD (n - 1) h) = true then (true, insZ (l.take (n - 1)) h) else (false, l)) else (true, insZ l h) := by
  unfold addZ
  rw [find_none fun j hj => hi _ (List.getElem_mem hj)]

end Go.Proofs.Ytpjbkaibgajpcaa

namespace Go.Proofs.Ytpjbkaibgajpcaa
open Go.ChangeShapes Go.WideShapes Go.ChangeAt Go.RowKit

theorem own : ownKnob Try.prog.godebug = none := by kernel_rfl
theorem laidOut : laidOutB Try.prog = true := by kernel_rfl

/-- a law's contract: whatever the world, it answers true, and nothing that was there has turned -/
def Law (f : FuncId) (args : Array Value) (w : World) : Prop := Calls Try.prog f args w fun e w' => e = .returned (.bool true) ∧ Below w.heap.size w w'

theorem trodAll_below {H : Type} {enc : TypeId × Value → H} {W W' : World} (hb : Below W.heap.size W W') : ∀ (ts : List TypeId) (vs : List Value) (ds : List (DataW H)) (ps : List MemPlace),
    (∀ t ∈ ts, Try.prog.readableRec t = true ∧ t < Try.prog.types.size) → DataW.TrodAll enc Try.prog W 0 (fun _ => true) true ts vs ds ps → (∀ x ∈ ps, x.block < W.heap.size) →
    DataW.TrodAll enc Try.prog W' 0 (fun b => decide (b < W.heap.size)) true ts vs ds ps
  | [], [], [], _, _, h, _ => h
  | t :: ts, v :: vs, d :: ds, ps, hr, h, hlt => by
    obtain ⟨p, q, h1, h2, rfl⟩ := h
    have ht := hr t (by simp)
    exact ⟨p, q, Below.trod laidOut ht.1 ht.2 h1 hb fun x hx => hlt x (by simp [hx]), trodAll_below hb ts vs ds q (fun t' ht' => hr t' (by simp [ht'])) h2 fun x hx => hlt x (by simp [hx]), rfl⟩
  | [], _ :: _, _, _, _, h, _ => h.elim
  | [], [], _ :: _, _, _, h, _ => h.elim
  | _ :: _, [], _, _, _, h, _ => h.elim
  | _ :: _, _ :: _, [], _, _, h, _ => h.elim

theorem law_post {H : Type} {enc : TypeId × Value → H} {f : Func} {s : ChangeSpec} {W W' : World} {args : Array Value} {ds : List (DataW H)} {before : List MemPlace}
    (hW : DataW.Whole enc Try.prog f.params.toList s.vars false W args.toList ds [] before) (hvars : s.vars = []) (hres : f.resultTypes = #[4])
    (h1 : (s.fn H (ds ++ [])).results = [.lit (.bool true)]) (h2 : (s.fn H (ds ++ [])).args = ds) (h3 : (s.fn H (ds ++ [])).vars = [])
    (hr : ∀ t ∈ f.params.toList, Try.prog.readableRec t = true ∧ t < Try.prog.types.size) (hb : Below W.heap.size W W') :
    s.post enc Try.prog f false true false false W args (.bool true) W' := by
  have hW' := hW
  obtain ⟨p, q, hA, hV, rfl, _, _⟩ := hW
  rw [hvars] at hV
  obtain ⟨_, rfl⟩ := trodVars_none hV
  refine ⟨ds, [], p ++ [], [], p, [], hW', ?_, ?_, ?_, hb.frame _, fun h => by cases h⟩
  · rw [h1, hres]; exact trodAll_mk1 (shut_bool Try.underlying4 true)
  · rw [h2]; exact trodAll_below hb _ _ _ _ hr hA fun x hx => hW'.lt x (by simp [hx])
  · rw [h3, hvars]; rfl

set_option maxRecDepth 100000 in
/-- an argument that is a slice of numbers reads so -/
theorem open_nums {H : Type} {enc : TypeId × Value → H} {W : World} {base t e : TypeId} {k : IntKind} {v : Value} {d : DataW H} {ps : List MemPlace}
    (ht : Try.prog.underlying t = some (.slice e)) (he : Try.prog.underlying e = some (.int k)) (hc : Try.prog.cellsOf e = 1)
    (hok : Value.okWide Try.prog W .any base t v) (h : DataW.Trod enc Try.prog W 0 (fun _ => true) true t v d ps) :
    ∃ xs : List Int, Nums W k v xs ∧ ∀ x ∈ xs, (Lit.int k x).wf = true := by
  obtain ⟨a0, len, cap, rfl⟩ := okWide_slice ht hok
  obtain ⟨fuel, hf⟩ := h
  rcases open_ints ht he hc hf with ⟨hcs, hx⟩ | ⟨a, len', cap', zs, hcs, _, hl, hm, hz, hx, hcell, hwz⟩
  · simp [Value.cells] at hcs
    obtain ⟨rfl, rfl, rfl⟩ := hcs
    exact ⟨[], Nums.mk (xs := []) (by simp) (by simp) (by simp) (by simp), by simp⟩
  · simp [Value.cells] at hcs
    obtain ⟨rfl, rfl, rfl⟩ := hcs
    simp only [if_true] at hz
    have hlen : (zs.take len).length = len := by simp; omega
    refine ⟨zs.take len, ?_, fun x hx => hwz x (List.mem_of_mem_take hx)⟩
    have key : Nums W k (.slice (some a) (zs.take len).length cap) (zs.take len) := by
      refine Nums.mk (by omega) (by simpa [maxLen] using hm) (by simp) fun i hi => ?_
      have hi' : i < zs.length := by omega
      have := hcell i hi'
      obtain ⟨b, off, spot⟩ := a
      obtain rfl : spot = none := by
        simpa [Addr.add] using World.cell?_spot (hcell 0 (by omega))
      rw [Addr.add_lit] at this
      refine ⟨b, off, rfl, ?_⟩
      rw [this]
      simp [List.getD, List.getElem?_eq_getElem hi']
    rw [hlen] at key
    exact key

end Go.Proofs.Ytpjbkaibgajpcaa

namespace Go.Proofs.Ytpjbkaibgajpcaa
open Go.ChangeShapes Go.WideShapes Go.ChangeAt Go.RowKit Go.Deep

section
variable {H : Type} {enc : TypeId × Value → H} {W : World}

end

end Go.Proofs.Ytpjbkaibgajpcaa

namespace Go.Proofs.Ytpjbkaibgajpcaa
open Go.ChangeShapes Go.WideShapes Go.ChangeAt Go.RowKit Go.Deep

section
variable {H : Type} {enc : TypeId × Value → H} {W : World}

end

end Go.Proofs.Ytpjbkaibgajpcaa

namespace Go.Proofs.Ytpjbkaibgajpcaa
open Go.RowKit

/-- what is there and comes again, or farther -/
def There (m : List Hz) (h : Hz) : Prop := ∃ x ∈ m, x.id = h.id ∧ x.dist ≤ h.dist

theorem ids_same {l : List Hz} (hd : Ids l) {x y : Hz} (hx : x ∈ l) (hy : y ∈ l) (h : x.id = y.id) : x = y := by
  obtain ⟨i, hi, rfl⟩ := List.mem_iff_getElem.1 hx
  obtain ⟨j, hj, rfl⟩ := List.mem_iff_getElem.1 hy
  rcases Nat.lt_trichotomy i j with h1 | rfl | h1
  · exact absurd h (List.pairwise_iff_getElem.1 hd i j hi hj h1)
  · rfl
  · exact absurd h.symm (List.pairwise_iff_getElem.1 hd j i hj hi h1)

end Go.Proofs.Ytpjbkaibgajpcaa

namespace Go.Proofs.Ytpjbkaibgajpcaa
open Go.RowKit

theorem addZ_at {n : Nat} {l : List Hz} {h : Hz} {k : Nat} (hk : k < l.length) (hd : Ids l) (hi : l[k].id = h.id) : addZ n l h = if h.dist < l[k].dist then (true, insZ (l.eraseIdx k) h) else (false, l) := by
  unfold addZ
  rw [find_some hk (fun j hj hjk => by rw [← hi]; exact List.pairwise_iff_getElem.1 hd j k _ _ hjk) hi]
  simp only
  rw [show l.getD k h = l[k] from by simp [List.getD, List.getElem?_eq_getElem hk]]

theorem find_id {l : List Hz} (h : Hz) : (∃ k, ∃ hk : k < l.length, l[k].id = h.id) ∨ ∀ x ∈ l, x.id ≠ h.id := by
  by_cases hx : ∃ x ∈ l, x.id = h.id
  · obtain ⟨x, hx, e⟩ := hx
    obtain ⟨k, hk, rfl⟩ := List.mem_iff_getElem.1 hx
    exact .inl ⟨k, hk, e⟩
  · exact .inr fun x hm e => hx ⟨x, hm, e⟩

theorem There.add {N : Nat} {L : List Hz} (hd : Ids L) (hN : L.length < N) {g : Hz} (h : There L g) (x : Hz) : There (addZ N L x).2 g := by
  obtain ⟨y, hy, hyi, hyd⟩ := h
  rcases find_id (l := L) x with ⟨k, hk, hi⟩ | hi
  · rw [addZ_at hk hd hi]
    split
    · rename_i hlt
      by_cases hc : y.id = x.id
      · have : y = L[k] := ids_same hd hy (List.getElem_mem hk) (by rw [hc, hi])
        subst this
        exact ⟨x, insZ_mem.2 (.inl rfl), by rw [← hi]; exact hyi, by omega⟩
      · refine ⟨y, insZ_mem.2 (.inr ?_), hyi, hyd⟩
        obtain ⟨j, hj, rfl⟩ := List.mem_iff_getElem.1 hy
        exact List.mem_eraseIdx_iff_getElem.2 ⟨j, hj, fun e => by subst e; exact hc hi, rfl⟩
    · exact ⟨y, hy, hyi, hyd⟩
  · rw [addZ_new hi, if_neg (by omega)]
    exact ⟨y, insZ_mem.2 (.inr hy), hyi, hyd⟩

theorem There.self {N : Nat} {L : List Hz} (hd : Ids L) (hN : L.length < N) (x : Hz) : There (addZ N L x).2 x := by
  rcases find_id (l := L) x with ⟨k, hk, hi⟩ | hi
  · rw [addZ_at hk hd hi]
    split
    · exact ⟨x, insZ_mem.2 (.inl rfl), rfl, Int.le_refl _⟩
    · exact ⟨L[k], List.getElem_mem hk, hi, by omega⟩
  · rw [addZ_new hi, if_neg (by omega)]
    exact ⟨x, insZ_mem.2 (.inl rfl), rfl, Int.le_refl _⟩

end Go.Proofs.Ytpjbkaibgajpcaa

namespace Go.Proofs.Ytpjbkaibgajpcaa
open Go.RowKit

/-- how many are nearer -/
def aheadZ (l : List Hz) (h : Hz) : Nat := l.countP fun x => near x h

theorem ahead_at {m : List Hz} (hs : Sorted m) {i : Nat} (hi : i < m.length) : aheadZ m m[i] = i := by
  unfold aheadZ
  have e : m = m.take i ++ m.drop i := (List.take_append_drop i m).symm
  have h1 : (m.take i).countP (fun x => near x m[i]) = i := by
    rw [List.countP_eq_length.2 fun x hx => ?_, List.length_take]
    · omega
    · obtain ⟨j, hj, rfl⟩ := List.mem_iff_getElem.1 hx
      rw [List.length_take] at hj
      rw [List.getElem_take]
      exact List.pairwise_iff_getElem.1 hs j i _ hi (by omega)
  have h2 : (m.drop i).countP (fun x => near x m[i]) = 0 := by
    rw [List.countP_eq_zero]
    intro x hx
    obtain ⟨j, hj, rfl⟩ := List.mem_iff_getElem.1 hx
    rw [List.getElem_drop]
    rw [List.length_drop] at hj
    by_cases e : i = i + j
    · have e0 : j = 0 := by omega
      subst e0
      simp [near_irrefl]
    · have := List.pairwise_iff_getElem.1 hs i (i + j) hi (by omega) (by omega)
      simp [near_asymm this]
  calc m.countP (fun x => near x m[i]) = (m.take i ++ m.drop i).countP (fun x => near x m[i]) := by rw [← e]
    _ = i := by rw [List.countP_append, h1, h2]; rfl

theorem ahead_perm {l m : List Hz} (hp : m.Perm l) (h : Hz) : aheadZ l h = aheadZ m h := (hp.countP_eq _).symm

theorem ahead_of {l m : List Hz} (hs : Sorted m) (hp : m.Perm l) {j : Nat} (hj : j < l.length) : ∃ h : aheadZ l l[j] < m.length, m[aheadZ l l[j]] = l[j] := by
  obtain ⟨i, hi, e⟩ := List.mem_iff_getElem.1 (hp.mem_iff.2 (List.getElem_mem hj))
  have : aheadZ l l[j] = i := by rw [← e, ahead_perm hp, ahead_at hs hi]
  simp only [this]
  exact ⟨hi, e⟩

/-- what was put so far stands where it belongs -/
def PutS (l : List Hz) (rl rs : List Hv) (k : Nat) : Prop := rs.length = l.length ∧ ∀ j (hj : j < l.length) (hj' : j < rl.length), j < k → rs[aheadZ l l[j]]? = some rl[j]

theorem PutS.next {l m : List Hz} {rl rs : List Hv} {k : Nat} (hs : Sorted m) (hp : m.Perm l) (hd : Ids l) (h : PutS l rl rs k) (hk : k < l.length) (hk' : k < rl.length) : PutS l rl (rs.set (aheadZ l l[k]) rl[k]) (k + 1) := by
  obtain ⟨h1, h2⟩ := h
  refine ⟨by simp [h1], fun j hj hj' hjk => ?_⟩
  obtain ⟨a1, a2⟩ := ahead_of hs hp hk
  by_cases e : j = k
  · subst e
    rw [List.getElem?_set_self (by rw [h1, ← hp.length_eq]; exact a1)]
  · have hne : aheadZ l l[k] ≠ aheadZ l l[j] := by
      intro e'
      obtain ⟨b1, b2⟩ := ahead_of hs hp hj
      have e3 : l[j] = l[k] := by rw [← b2, ← a2]; congr 1; exact e'.symm
      rcases Nat.lt_or_ge j k with h | h
      · exact List.pairwise_iff_getElem.1 hd j k hj hk h (by rw [e3])
      · exact List.pairwise_iff_getElem.1 hd k j hk hj (by omega) (by rw [e3])
    rw [List.getElem?_set_ne hne]
    exact h2 j hj hj' (by omega)

theorem PutS.rows {w : World} {F : Nat → Prop} {l m : List Hz} {rl rs : List Hv} (hs : Sorted m) (hp : m.Perm l) (h : PutS l rl rs l.length) (hr : Rows3 w F rl l) : Rows3 w F rs m := by
  obtain ⟨h1, h2⟩ := h
  refine ⟨by rw [h1, hp.length_eq], fun i i1 i2 => ?_⟩
  obtain ⟨j, hj, e⟩ := List.mem_iff_getElem.1 (hp.mem_iff.1 (List.getElem_mem i2))
  have hj' : j < rl.length := by rw [hr.len]; exact hj
  have h3 := h2 j hj hj' hj
  rw [e, ahead_perm hp, ahead_at hs i2, List.getElem?_eq_getElem i1] at h3
  rw [Option.some.inj h3, ← e]
  exact hr.each j hj' hj

end Go.Proofs.Ytpjbkaibgajpcaa
