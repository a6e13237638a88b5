/-
  Are two vectors the same (ref): for seats without vec.Right.
  A row of the call's own is written in its midst: cells, structs.
-/
import Derived.Test.YtfmlhdikagogcaaDoorJ01
import Derived.Test.YtfmlhdikagogcaaDoorJ02
import Derived.Test.YtfmlhdikagogcaaDoorJ08
import Derived.Deep.MidRow
import Derived.Deep.Upon
namespace Go.Proofs.YtfmlhdikagogcaaDoor
open Go.RowKit
set_option maxRecDepth 20000

theorem sameVecQ (xs ys : List Int) (v u : Value) (w : World) (h : Nums w .i32 v xs) (g : Nums w .i32 u ys) :
    Calls Tryd.prog 42 #[v, u] w fun e w' => e = .returned (.bool (decide (xs = ys))) ∧ Drawn w w' := by
  obtain ⟨p, cap, rfl, hcap, hbig, -, hc⟩ := h.slice
  have hl : xs.length ≤ 9223372036854775807 := by omega
  clear hcap hbig
  obtain ⟨q, cap', rfl, hcap', hbig', -, hc'⟩ := g.slice
  have hl' : ys.length ≤ 9223372036854775807 := by omega
  clear hcap' hbig'
  have H := Lib.hid h
  have G := Lib.hid g
  clear h g hc hc'
  by_cases h3 : xs.length = ys.length
  · have h4 : ((xs.length : Int) != ys.length) = false := by simp [h3]
    have H3 := Lib.hid h3
    clear h3
    go_enter Tryd.func42, Tryd.ntmps42
    go_wp2
    go_loopw [5, 13] (fun _ i wr => ∃ k : Nat, k ≤ xs.length ∧ i = .int .i64 k ∧ xs.take k = ys.take k ∧ Drawn w wr) (fun _ i _ => xs.length - (intOf i).toNat)
    case atStart => exact ⟨0, by omega, rfl, rfl, Drawn.refl _⟩
    case round =>
      obtain ⟨k, hk, rfl, hall, hb⟩ := hrel
      have A := Lib.hid (And.intro hall hb)
      clear hall hb
      by_cases hlt : k < xs.length
      · have hlt' : k < ys.length := by have := H3.out; omega
        obtain ⟨b, off, rfl, hcell⟩ := (H.out.below A.out.2.below).elem hlt
        obtain ⟨b', off', rfl, hcell'⟩ := (G.out.below A.out.2.below).elem hlt'
        have hl8 : ys.length ≤ 9223372036854775807 := by omega
        by_cases hx : xs[k] = ys[k]
        · have hne : (xs[k] != ys[k]) = false := by simp [hx]
          have E := Lib.hid hx
          clear hx
          go_wp2
          go_quiet (fail)
          go_wp2
          go_roundw
          case rel => exact ⟨k + 1, by omega, by go_num, by rw [List.take_succ_eq_append_getElem hlt, List.take_succ_eq_append_getElem hlt', A.out.1, E.out], A.out.2.drewN _⟩
          case measure => simp [intOf]; omega
        · have hne : (xs[k] != ys[k]) = true := by simp [hx]
          have E := Lib.hid hx
          clear hx
          go_wp2
          go_quiet (fail)
          go_wp2
          go_ret
          exact ⟨ret_bool (by simp; intro e; subst e; exact E.out rfl), A.out.2.drewN _⟩
      · go_wp2
        go_ret
        have h3 := H3.out
        have h4 := A.out.1
        rw [List.take_of_length_le (by omega), List.take_of_length_le (by omega)] at h4
        exact ⟨ret_bool (by simp [h4]), A.out.2⟩
  · have h4 : ((xs.length : Int) != ys.length) = true := by simp; omega
    go_enter Tryd.func42, Tryd.ntmps42
    go_wp2
    go_ret
    exact ⟨ret_bool (by simp; intro e; exact h3 (by rw [e])), Drawn.refl _⟩

theorem sameVec (xs ys : List Int) (v u : Value) (w : World) (h : Nums w .i32 v xs) (g : Nums w .i32 u ys) :
    Calls Tryd.prog 42 #[v, u] w fun e w' => e = .returned (.bool (decide (xs = ys))) ∧ Below w.heap.size w w' :=
  (sameVecQ xs ys v u w h g).mono fun _ _ ⟨a, b⟩ => ⟨a, b.below⟩

end Go.Proofs.YtfmlhdikagogcaaDoor

namespace Go.Proofs.YtfmlhdikagogcaaDoor
open Go.RowKit
set_option maxRecDepth 20000

/-- in a region that draws its order: two may come up -/
theorem spB {P : Program} {ops : Array Oper} {Q : Exit → Act → World → Prop} {md : Region.Mode} {S : World → Prop} (i j : Nat) {oi oj : Oper} {fuel : Nat} {listed : Array Bool} {a : Act} {w : World} (hi : ops.toList[i]? = some oi) (hj : ops.toList[j]? = some oj)
    (hr : Region.ready md ops listed = [i, j]) (hwi : Region.wanted oi (yielded ops a.tmps) = true) (hwj : Region.wanted oj (yielded ops a.tmps) = true)
    (h : ∀ K' : Act → World → Prop, Shut (∀ a w, S w → (S w → wpAnyH P md ops Q S fuel (listed.setIfInBounds i true) a w) → K' a w) → oi.wp P a w K' Q)
    (h' : ∀ K' : Act → World → Prop, Shut (∀ a w, S w → (S w → wpAnyH P md ops Q S fuel (listed.setIfInBounds j true) a w) → K' a w) → oj.wp P a w K' Q) : wpAnyH P md ops Q S (fuel + 1) listed a w := by
  refine wpAnyH_ready hr (by simp) ?_
  refine AllReadyH.cons (by rw [← hi, Array.getElem?_toList]) (fun K' hK => ?_) (AllReadyH.cons (by rw [← hj, Array.getElem?_toList]) (fun K' hK => ?_) AllReadyH.nil)
  · rw [if_pos hwi]; exact h K' hK
  · rw [if_pos hwj]; exact h' K' hK

/-- the cells from o on become these -/
def setAt (xs : List Value) (o : Nat) : List Value → List Value
  | [] => xs
  | v :: r => setAt (xs.set o v) (o + 1) r

theorem own_setCell {w : World} {base e size n : Nat} {v : Value} {xs : List Value} {g o : Nat} (h : w.ownsRow base e size v n xs) (hg : v.ownBlock = some g) (ho : o < n * size) (u : Value) :
    (w.setCell ⟨g, o, none⟩ u).ownsRow base e size v n (xs.set o u) := by
  obtain ⟨h1, ⟨rfl, rfl⟩ | ⟨b, cap, cur, rfl, hb, hh, hn, hc, hs, ht⟩⟩ := h
  · simp [Value.ownBlock] at hg
  · simp only [Value.ownBlock, Option.some.injEq] at hg
    subst hg
    refine ⟨by simpa using h1, .inr ⟨b, cap, cur.setIfInBounds o u, rfl, hb, ?_, hn, hc, by simpa using hs, ?_⟩⟩
    · simp [World.setCell, Array.getElem?_modify, hh]
    · rw [← ht]
      simp [List.take_set]

theorem own_setCells {base e size n : Nat} {v : Value} {g : Nat} (hg : v.ownBlock = some g) : ∀ (vs : List Value) (o : Nat) (w : World) (xs : List Value), w.ownsRow base e size v n xs → o + vs.length ≤ n * size →
    (w.setCells g o vs).ownsRow base e size v n (setAt xs o vs)
  | [], _, _, _, h, _ => h
  | u :: r, o, w, xs, h, ho => by
    rw [World.setCells, setAt]
    simp only [List.length_cons] at ho
    exact own_setCells hg r (o + 1) _ _ (own_setCell h hg (by omega) u) (by omega)

theorem heap_size_setCells (g : Nat) : ∀ (vs : List Value) (o : Nat) (w : World), (w.setCells g o vs).heap.size = w.heap.size
  | [], _, _ => rfl
  | u :: r, o, w => by rw [World.setCells, heap_size_setCells g r]; simp [World.setCell]

theorem grownBy_setCells (g : Nat) : ∀ (vs : List Value) (o : Nat) (w : World), w.grownBy (w.setCells g o vs) (some g)
  | [], _, w => World.grownBy.refl w _
  | u :: r, o, w => by
    rw [World.setCells]
    obtain ⟨a1, a2, a3, a4, a5⟩ := grownBy_setCells g r (o + 1) (w.setCell ⟨g, o, none⟩ u)
    refine ⟨a1, a2, a3, ?_, fun k hk hne => ?_⟩
    · rw [heap_size_setCells]; simp [World.setCell]
    · rw [a5 k (by simpa [World.setCell] using hk) hne]
      exact Below.heap_setCell _ _ _ _ (fun e => hne (by rw [e]))

theorem own_rangeAt {w : World} {base e size n : Nat} {v : Value} {xs : List Value} {g : Nat} (h : w.ownsRow base e size v n xs) (hg : v.ownBlock = some g) (o : Nat) (cs : List Value) (hc : ∀ j u, cs[j]? = some u → xs[o + j]? = some u) : w.rangeAt g o cs := by
  obtain ⟨h1, ⟨rfl, rfl⟩ | ⟨b, cap, cur, rfl, hb, hh, hn, hm, hs, ht⟩⟩ := h
  · simp [Value.ownBlock] at hg
  · simp only [Value.ownBlock, Option.some.injEq] at hg
    subst hg
    intro j u hj
    have := hc j u hj
    rw [← ht, List.getElem?_take] at this
    split at this
    · simp only [World.cell?, hh]; simpa using this
    · cases this

theorem own_there {w : World} {base e size n : Nat} {v : Value} {xs : List Value} {g : Nat} (h : w.ownsRow base e size v n xs) (hg : v.ownBlock = some g) (o m : Nat) (hm : o + m ≤ n * size) : w.there g o m := by
  obtain ⟨h1, ⟨rfl, rfl⟩ | ⟨b, cap, cur, rfl, hb, hh, hn, hcm, hs, ht⟩⟩ := h
  · simp [Value.ownBlock] at hg
  · simp only [Value.ownBlock, Option.some.injEq] at hg
    subst hg
    have h1 : n * size ≤ cap * size := Nat.mul_le_mul_right _ hn
    intro j hj
    have hlt : o + j < cur.size := by omega
    refine ⟨?_, ?_⟩
    · simp [World.cell?, hh, hlt]
    · simp [World.frozen?, hh]

theorem setAt_flat2 (rs : List (Int × Value)) (i : Nat) (x : Int) (u : Value) : setAt (flat2 rs) (i * 2) [.int .u64 x, u] = flat2 (rs.set i (x, u)) := by
  simp only [setAt]
  induction rs generalizing i with
  | nil => simp [flat2]
  | cons r rs ih =>
    cases i with
    | zero => simp [flat2]
    | succ i =>
      have e1 : (i + 1) * 2 = i * 2 + 1 + 1 := by omega
      rw [e1]
      simp only [flat2, List.set_cons_succ]
      rw [ih i]

end Go.Proofs.YtfmlhdikagogcaaDoor
