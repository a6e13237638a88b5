/-
  graph: the edges of one node are written; an edge from both sides.
  Small laws for walking a region that draws its order: one operation at a time, what may be taken first first, an operation whose guard is false among them.
-/
import Derived.Test.YtdbeekdnehojnaaJ04
import Derived.Test.YtdbeekdnehojnaaJ01
import Derived.Deep.RegionHeld3
namespace Go.Proofs.Ytdbeekdnehojnaa
open Go.RowKit Go.ChangeMaps

def putE : List (Int × Bool) → Int → Bool → List (Int × Bool)
  | [], x, v => [(x, v)]
  | e :: E, x, v => if e.1 = x then (x, v) :: E else e :: putE E x v

theorem innerL_put (E : List (Int × Bool)) (x : Int) (v : Bool) : putK (innerL E) x (.bool v) = innerL (putE E x v) := by
  induction E with
  | nil => rfl
  | cons e E ih =>
    by_cases h : e.1 = x
    · simp [innerL, putK, putE, h]
    · have ih' := ih
      simp only [innerL] at ih' ⊢
      simp [putK, putE, h, ih']

theorem innerL_del (E : List (Int × Bool)) (x : Int) : delK (innerL E) x = innerL (E.filter fun e => decide (e.1 ≠ x)) := by
  simp only [innerL, delK, List.filter_map]
  rfl

/-- the edges of a are turned by f -/
def setQ (Q : Gr) (a : Int) (f : List (Int × Bool) → List (Int × Bool)) : Gr := Q.map fun q => if q.1 = a then (q.1, q.2.1, f q.2.2) else q

theorem outerL_set (Q : Gr) (a : Int) (f) : outerL (setQ Q a f) = outerL Q := by
  simp only [outerL, setQ, List.map_map]
  refine List.map_congr_left fun q _ => ?_
  simp only [Function.comp]
  split <;> rfl

theorem blocks_set (Q : Gr) (a : Int) (f) : (setQ Q a f).map (fun q => q.2.1) = Q.map (fun q => q.2.1) := by
  simp only [setQ, List.map_map]
  refine List.map_congr_left fun q _ => ?_
  simp only [Function.comp]
  split <;> rfl

theorem keys_set (Q : Gr) (a : Int) (f) : (setQ Q a f).map (fun q => q.1) = Q.map (fun q => q.1) := by
  simp only [setQ, List.map_map]
  refine List.map_congr_left fun q _ => ?_
  simp only [Function.comp]
  split <;> rfl

theorem GrAt.keys {w : World} {p m : Nat} {Q : Gr} (h : GrAt w p m Q) : (Q.map (fun q => q.1)).Nodup := by
  obtain ⟨es, c, hi⟩ := h.outer
  have := hi.keys
  simpa [outerL, List.map_map, Function.comp_def] using this

theorem nodup_inj {α β : Type} {f : α → β} : ∀ {l : List α}, (l.map f).Nodup → ∀ {x y : α}, x ∈ l → y ∈ l → f x = f y → x = y
  | [], _, _, _, hx, _, _ => by cases hx
  | a :: l, h, x, y, hx, hy, e => by
    simp only [List.map_cons, List.nodup_cons] at h
    rcases List.mem_cons.1 hx with h1 | h1 <;> rcases List.mem_cons.1 hy with h2 | h2
    · rw [h1, h2]
    · rw [h1] at e
      exact absurd (e ▸ List.mem_map_of_mem h2) h.1
    · rw [h2] at e
      exact absurd (e ▸ List.mem_map_of_mem h1) h.1
    · exact nodup_inj h.2 h1 h2 e

theorem GrAt.set {w w' : World} {p m : Nat} {Q : Gr} (h : GrAt w p m Q) {q : Int × Nat × List (Int × Bool)} (hq : q ∈ Q) (f : List (Int × Bool) → List (Int × Bool))
    (hm : MapAt w' (Value.int .u64) q.2.1 (innerL (f q.2.2))) (hg : w.grownBy w' (some q.2.1)) : GrAt w' p m (setQ Q q.1 f) := by
  have hold : ∀ j, j < w.heap.size → j ≠ q.2.1 → w'.heap[j]? = w.heap[j]? := fun j hj hne => hg.block j hj (fun e => hne (by cases e; rfl))
  have hnd := List.nodup_cons.1 h.apart
  refine ⟨?_, ?_, ?_, ?_⟩
  · refine (hold p (Array.getElem?_eq_some_iff.1 h.cell).1 ?_).trans h.cell
    intro e
    obtain ⟨es, c, hi⟩ := h.inner q hq
    have := hi.obj
    rw [← e, h.cell] at this
    cases this
  · rw [outerL_set]
    refine h.outer.kept (hold m h.outer.lt ?_)
    intro e
    exact hnd.1 (e ▸ List.mem_map_of_mem hq)
  · intro r hr
    simp only [setQ, List.mem_map] at hr
    obtain ⟨r0, hr0, rfl⟩ := hr
    by_cases hk : r0.1 = q.1
    · have : r0 = q := nodup_inj h.keys hr0 hq hk
      subst this
      simpa using hm
    · rw [if_neg hk]
      refine (h.inner r0 hr0).kept (hold _ (h.inner r0 hr0).lt fun e => hk ?_)
      rw [nodup_inj hnd.2 hr0 hq e]
  · rw [blocks_set]; exact h.apart

theorem mem_set_ne {Q : Gr} {a : Int} {f} {q : Int × Nat × List (Int × Bool)} (hq : q ∈ Q) (h : q.1 ≠ a) : q ∈ setQ Q a f :=
  List.mem_map.2 ⟨q, hq, by rw [if_neg h]⟩

end Go.Proofs.Ytdbeekdnehojnaa

namespace Go.Proofs.Ytdbeekdnehojnaa
open Go.RowKit

section
variable {P : Program} {ops : Array Oper} {Q : Exit → Act → World → Prop} {md : Region.Mode} {S : World → Prop}

/-- number i may be taken first now, as far as the text tells -/
def canTake (md : Region.Mode) (ops : Array Oper) (listed : Array Bool) (i : Nat) : Bool := Region.noSelect ops && Region.free md ops listed i && (Region.ready md ops listed).contains i

/-- its guard is false: it is passed over -/
theorem tkN (i : Nat) {oi : Oper} {fuel : Nat} {listed : Array Bool} {a : Act} {w : World} (hS : S w) (hi : ops.toList[i]? = some oi) (hQ : ∀ c a w, Q (.panic c) (a.put oi.dst undef) w → Q (.panic c) a w)
    (hc : canTake md ops listed i = true) (hw : Region.wanted oi (yielded ops a.tmps) = false)
    (h : wpAnyH P md ops Q S fuel (listed.setIfInBounds i true) (a.put oi.dst undef) w) : wpAnyH P md ops Q S (fuel + 1) listed a w := by
  simp only [canTake, Bool.and_eq_true] at hc
  exact wpAnyH_take (by rw [← hi, Array.getElem?_toList]) hc.1.1 hc.1.2 hc.2 hQ (.inr ⟨hw, rfl⟩) hS h

theorem kN (i : Nat) {oi : Oper} {fuel : Nat} {listed : Array Bool} {a : Act} {w : World} (hS : S w) (h : wpAnyH P md ops Q S fuel (listed.setIfInBounds i true) (a.put oi.dst undef) w)
    (hi : ops.toList[i]? = some oi := by exact rfl) (hQ : ∀ c a w, Q (.panic c) (a.put oi.dst undef) w → Q (.panic c) a w := by exact fun _ _ _ h => h) (hc : canTake md ops listed i = true := by decide +kernel) (hw : Region.wanted oi (yielded ops a.tmps) = false := by rfl) : wpAnyH P md ops Q S (fuel + 1) listed a w :=
  tkN i hS hi hQ hc hw h

/-- it yields v in every world that meets S -/
theorem tkY (i : Nat) {oi : Oper} {v : Value} {fuel : Nat} {listed : Array Bool} {a : Act} {w : World} (hS : S w) (hi : ops.toList[i]? = some oi) (hQ : ∀ c a w, Q (.panic c) (a.put oi.dst v) w → Q (.panic c) a w)
    (hc : canTake md ops listed i = true) (hw : Region.wanted oi (yielded ops a.tmps) = true) (hy : ∀ w, S w → (execOp a.eval oi).run P w = .ok (.value v) w)
    (h : wpAnyH P md ops Q S fuel (listed.setIfInBounds i true) (a.put oi.dst v) w) : wpAnyH P md ops Q S (fuel + 1) listed a w := by
  simp only [canTake, Bool.and_eq_true] at hc
  exact wpAnyH_take (by rw [← hi, Array.getElem?_toList]) hc.1.1 hc.1.2 hc.2 hQ (.inl ⟨hw, hy⟩) hS h

theorem kY (i : Nat) {oi : Oper} {v : Value} {fuel : Nat} {listed : Array Bool} {a : Act} {w : World} (hS : S w) (h : wpAnyH P md ops Q S fuel (listed.setIfInBounds i true) (a.put oi.dst v) w)
    (hi : ops.toList[i]? = some oi := by exact rfl) (hQ : ∀ c a w, Q (.panic c) (a.put oi.dst v) w → Q (.panic c) a w := by exact fun _ _ _ h => h) (hc : canTake md ops listed i = true := by decide +kernel) (hw : Region.wanted oi (yielded ops a.tmps) = true := by rfl) (hy : ∀ w, S w → (execOp a.eval oi).run P w = .ok (.value v) w := by intro w hS; (try dsimp only at hS); go_simp; try with_reducible rfl) : wpAnyH P md ops Q S (fuel + 1) listed a w :=
  tkY i hS hi hQ hc hw hy h

/-- it is the one that comes up, and is carried out -/
theorem spk (i : Nat) {oi : Oper} {fuel : Nat} {listed : Array Bool} {a : Act} {w : World} (hi : ops.toList[i]? = some oi)
    (hr : Region.ready md ops listed = [i]) (hw : Region.wanted oi (yielded ops a.tmps) = true)
    (h : ∀ K' : Act → World → Prop, Shut (∀ a w, S w → (S w → wpAnyH P md ops Q S fuel (listed.setIfInBounds i true) a w) → K' a w) → oi.wp P a w K' Q) : wpAnyH P md ops Q S (fuel + 1) listed a w := by
  refine wpAnyH_ready hr (by simp) ?_
  refine AllReadyH.cons (by rw [← hi, Array.getElem?_toList]) (fun K' hK => ?_) AllReadyH.nil
  rw [if_pos hw]
  exact h K' hK

theorem region_go {id : Nat} {a : Act} {w : World} (S : World → Prop) (hm : P.follows .mixedOrders = true) (hS : S w.drew)
    (h : S w.drew → wpAnyH P .any ops Q S ops.size (Array.replicate ops.size false) a w.drew) : (Code.region id ops true).wp P Q a w :=
  wp_region_held_drew hm hS h
end

end Go.Proofs.Ytdbeekdnehojnaa
