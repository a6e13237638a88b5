/-
  A vector is cut, a new one: for seats without vec.Right.
  Are two vectors the same (ref): for seats without vec.Right.
  Small laws for walking a region that draws its order: one operation at a time, what may be taken first first, an operation whose guard is false among them.
  A row of the call's own is written in its midst: cells, structs.
-/
import Derived.Laws.AppendOwnNone
import Derived.Test.YtjnkiloomdeljaaJ01
import Derived.Deep.RegionHeld3
import Derived.Deep.MidRow
import Derived.Deep.Upon
namespace Go.Proofs.Ytjnkiloomdeljaa
open Go.RowKit

theorem infoI32 : (Try.prog.info? 21).map (fun i => (i.zero, i.size, i.bytes)) = some (some (.int .i32 0), 1, 4) := by kernel_rfl

/-- a new slice of the call's own that reads as xs: the answer of a call that began in w -/
def NewNums (w : World) (k : IntKind) (e : Nat) (xs : List Int) (r : Ending) (w' : World) : Prop :=
  ∃ v, r = .returned v ∧ w'.ownsRow w.heap.size e 1 v xs.length (xs.map (Value.int k)) ∧ Below w.heap.size w w'

theorem NewNums.nums {w : World} {k : IntKind} {e : Nat} {xs : List Int} {r : Ending} {w' : World} (h : NewNums w k e xs r w') : ∃ v, r = .returned v ∧ Nums w' k v xs ∧ Below w.heap.size w w' :=
  let ⟨v, h1, h2, h3⟩ := h; ⟨v, h1, Nums.of_own h2, h3⟩

theorem ints_one {k : IntKind} {xs : List Int} : ∀ u ∈ xs.map (Value.int k), u.oneCell' = true := by
  intro u hu; obtain ⟨x, _, rfl⟩ := List.mem_map.1 hu; rfl

theorem cutVec_some (xs : List Int) (a : Addr) (cap : Nat) (n : Int) (m : Nat) (w : World) (hcap : xs.length ≤ cap) (hl : cap ≤ 9223372036854775807) (hc : ∀ j (hj : j < xs.length), w.cell? (a.add j) = some (.int .i32 xs[j])) (hn : 0 ≤ n)
    (hm : (m : Int) = min (xs.length : Int) n) (hr : m * 4 ≤ 140737488351232) :
    Calls Try.prog 62 #[.slice (some a) xs.length cap, .int .i64 n] w (NewNums w .i32 21 (xs.take n.toNat)) := by
  obtain ⟨i0, hi, hz0, hz1, hz2⟩ := info_parts infoI32
  have C := Lib.hid hc
  clear hc
  have hmx : m ≤ xs.length := by omega
  have key : ∀ w1 : World, Below w.heap.size w w1 → ∀ j u, ((xs.take m).map (Value.int .i32))[j]? = some u → w1.cell? (a.add j) = some u := by
    intro w1 hb j u hj
    rw [List.getElem?_map] at hj
    rw [Option.map_eq_some_iff] at hj
    obtain ⟨x, hx, rfl⟩ := hj
    rw [List.getElem?_take] at hx
    split at hx
    · obtain ⟨hj', rfl⟩ := List.getElem?_eq_some_iff.1 hx
      have := C.out j hj'
      rw [hb.cell (lt_of_cell this), this]
    · cases hx
  have K := Lib.hid key
  clear key
  have e1 : xs.take n.toNat = xs.take m := by
    by_cases h : xs.length ≤ n
    · rw [List.take_of_length_le (by omega), List.take_of_length_le (by omega)]
    · have e : n.toNat = m := by omega
      rw [e]
  rw [e1]
  have R := Lib.hid hr
  have M := Lib.hid hm
  clear hr hm
  by_cases hle : (xs.length : Int) ≤ n
  · have hmm : m = xs.length := by have := M.out; omega
    subst hmm
    go_enter Try.func62, Try.ntmps62
    go_wp2_with (at_builtin; refine wpList_append_own _ rfl _ _ 41 rfl w.heap.size 21 i0 (.int .i32 0) 1 4 Try.underlying41 hi hz0 hz1 hz2 rfl (by decide) _ 0 [] rfl (by exact ⟨rfl, .inr ⟨_, _, #[], rfl, Nat.le_refl _, heap_alloc_new _ _, Nat.le_refl _, by simp [maxLen], rfl, rfl⟩⟩) a xs.length cap ((xs.take xs.length).map (Value.int .i32)) rfl (by simp <;> omega) (by exact K.out _ ((Below.refl _ _).alloc (Nat.le_refl _) _)) ints_one (by simp [maxLen]; omega) (by have := R.out; omega) (by simp) ?_)
    intro v' w1 hown hg _
    go_wp2
    go_ret
    exact ⟨v', rfl, by simpa using hown, ((Below.refl _ _).alloc (Nat.le_refl _) _).grown hg (by simp) (by simp [Value.ownBlock])⟩
  · have hmm : n = m := by have := M.out; omega
    subst hmm
    go_enter Try.func62, Try.ntmps62
    go_wp2_with (at_builtin; refine wpList_append_own _ rfl _ _ 41 rfl w.heap.size 21 i0 (.int .i32 0) 1 4 Try.underlying41 hi hz0 hz1 hz2 rfl (by decide) _ 0 [] rfl (by exact ⟨rfl, .inr ⟨_, _, #[], rfl, Nat.le_refl _, heap_alloc_new _ _, Nat.le_refl _, by simp [maxLen], rfl, rfl⟩⟩) a m cap ((xs.take m).map (Value.int .i32)) rfl (by simp <;> omega) (by exact K.out _ ((Below.refl _ _).alloc (Nat.le_refl _) _)) ints_one (by simp [maxLen]; omega) (by have := R.out; omega) (by simp) ?_)
    intro v' w1 hown hg _
    go_wp2
    go_ret
    have hlen : (xs.take m).length = m := by simp; omega
    exact ⟨v', rfl, by rw [hlen]; simpa using hown, ((Below.refl _ _).alloc (Nat.le_refl _) _).grown hg (by simp) (by simp [Value.ownBlock])⟩

theorem cutVec_nil (n : Int) (w : World) (hn : 0 ≤ n) :
    Calls Try.prog 62 #[.slice none 0 0, .int .i64 n] w (NewNums w .i32 21 []) := by
  obtain ⟨i0, hi, hz0, hz1, hz2⟩ := info_parts infoI32
  go_enter Try.func62, Try.ntmps62
  go_wp2_with (at_builtin; refine wpList_append_own_none rfl _ _ 41 rfl w.heap.size 21 i0 1 Try.underlying41 hi _ 0 [] rfl (by exact ⟨rfl, .inr ⟨_, _, #[], rfl, Nat.le_refl _, heap_alloc_new _ _, Nat.le_refl _, by simp [maxLen], rfl, rfl⟩⟩) rfl ?_)
  go_wp2
  go_ret
  exact ⟨_, rfl, ⟨rfl, .inr ⟨_, _, #[], rfl, Nat.le_refl _, heap_alloc_new _ _, Nat.le_refl _, by simp [maxLen], rfl, rfl⟩⟩, by go_grown⟩

theorem cutVec (xs : List Int) (v : Value) (n : Int) (w : World) (h : Nums w .i32 v xs) (hn : 0 ≤ n) (hr : xs.length * 4 ≤ 140737488351232 ∨ n ≤ 100) :
    Calls Try.prog 62 #[v, .int .i64 n] w (NewNums w .i32 21 (xs.take n.toNat)) := by
  obtain ⟨p, cap, rfl, h1, h2, h3, h4⟩ := h.slice
  cases p with
  | none =>
    obtain rfl := h3 rfl
    obtain rfl : xs = [] := List.eq_nil_of_length_eq_zero (by omega)
    simpa using cutVec_nil n w hn
  | some a =>
    refine cutVec_some xs a cap n (min xs.length n.toNat) w h1 h2 (fun j hj => ?_) hn (by omega) (by omega)
    obtain ⟨b, off, hp, hc⟩ := h4 j hj
    simp only [Option.some.injEq] at hp
    rw [hp, Addr.add_lit]
    exact hc

end Go.Proofs.Ytjnkiloomdeljaa

namespace Go.Proofs.Ytjnkiloomdeljaa
open Go.RowKit

theorem sameVecQ (xs ys : List Int) (v u : Value) (w : World) (h : Nums w .i32 v xs) (g : Nums w .i32 u ys) :
    Calls Try.prog 32 #[v, u] w fun e w' => e = .returned (.bool (decide (xs = ys))) ∧ Drawn w w' := by
  obtain ⟨p, cap, rfl, hcap, hbig, -, hc⟩ := h.slice
  have hl : xs.length ≤ 9223372036854775807 := by omega
  clear hcap hbig
  obtain ⟨q, cap', rfl, hcap', hbig', -, hc'⟩ := g.slice
  have hl' : ys.length ≤ 9223372036854775807 := by omega
  clear hcap' hbig'
  have H := Lib.hid h
  have G := Lib.hid g
  clear h g hc hc'
  by_cases h3 : xs.length = ys.length
  · have h4 : ((xs.length : Int) != ys.length) = false := by simp [h3]
    have H3 := Lib.hid h3
    clear h3
    go_enter Try.func32, Try.ntmps32
    go_wp2
    go_loopw [5, 13] (fun _ i wr => ∃ k : Nat, k ≤ xs.length ∧ i = .int .i64 k ∧ xs.take k = ys.take k ∧ Drawn w wr) (fun _ i _ => xs.length - (intOf i).toNat)
    case atStart => exact ⟨0, by omega, rfl, rfl, Drawn.refl _⟩
    case round =>
      obtain ⟨k, hk, rfl, hall, hb⟩ := hrel
      have A := Lib.hid (And.intro hall hb)
      clear hall hb
      by_cases hlt : k < xs.length
      · have hlt' : k < ys.length := by have := H3.out; omega
        obtain ⟨b, off, rfl, hcell⟩ := (H.out.below A.out.2.below).elem hlt
        obtain ⟨b', off', rfl, hcell'⟩ := (G.out.below A.out.2.below).elem hlt'
        have hl8 : ys.length ≤ 9223372036854775807 := by omega
        by_cases hx : xs[k] = ys[k]
        · have hne : (xs[k] != ys[k]) = false := by simp [hx]
          have E := Lib.hid hx
          clear hx
          go_wp2
          go_quiet (fail)
          go_wp2
          go_roundw
          case rel => exact ⟨k + 1, by omega, by go_num, by rw [List.take_succ_eq_append_getElem hlt, List.take_succ_eq_append_getElem hlt', A.out.1, E.out], A.out.2.drewN _⟩
          case measure => simp [intOf]; omega
        · have hne : (xs[k] != ys[k]) = true := by simp [hx]
          have E := Lib.hid hx
          clear hx
          go_wp2
          go_quiet (fail)
          go_wp2
          go_ret
          exact ⟨ret_bool (by simp; intro e; subst e; exact E.out rfl), A.out.2.drewN _⟩
      · go_wp2
        go_ret
        have h3 := H3.out
        have h4 := A.out.1
        rw [List.take_of_length_le (by omega), List.take_of_length_le (by omega)] at h4
        exact ⟨ret_bool (by simp [h4]), A.out.2⟩
  · have h4 : ((xs.length : Int) != ys.length) = true := by simp; omega
    go_enter Try.func32, Try.ntmps32
    go_wp2
    go_ret
    exact ⟨ret_bool (by simp; intro e; exact h3 (by rw [e])), Drawn.refl _⟩

theorem sameVec (xs ys : List Int) (v u : Value) (w : World) (h : Nums w .i32 v xs) (g : Nums w .i32 u ys) :
    Calls Try.prog 32 #[v, u] w fun e w' => e = .returned (.bool (decide (xs = ys))) ∧ Below w.heap.size w w' :=
  (sameVecQ xs ys v u w h g).mono fun _ _ ⟨a, b⟩ => ⟨a, b.below⟩

end Go.Proofs.Ytjnkiloomdeljaa

namespace Go.Proofs.Ytjnkiloomdeljaa
open Go.RowKit

section
variable {P : Program} {ops : Array Oper} {Q : Exit → Act → World → Prop} {md : Region.Mode} {S : World → Prop}

/-- number i may be taken first now, as far as the text tells -/
def canTake (md : Region.Mode) (ops : Array Oper) (listed : Array Bool) (i : Nat) : Bool := Region.noSelect ops && Region.free md ops listed i && (Region.ready md ops listed).contains i

/-- its guard is false: it is passed over -/
theorem tkN (i : Nat) {oi : Oper} {fuel : Nat} {listed : Array Bool} {a : Act} {w : World} (hS : S w) (hi : ops.toList[i]? = some oi) (hQ : ∀ c a w, Q (.panic c) (a.put oi.dst undef) w → Q (.panic c) a w)
    (hc : canTake md ops listed i = true) (hw : Region.wanted oi (yielded ops a.tmps) = false)
    (h : wpAnyH P md ops Q S fuel (listed.setIfInBounds i true) (a.put oi.dst undef) w) : wpAnyH P md ops Q S (fuel + 1) listed a w := by
  simp only [canTake, Bool.and_eq_true] at hc
  exact wpAnyH_take (by rw [← hi, Array.getElem?_toList]) hc.1.1 hc.1.2 hc.2 hQ (.inr ⟨hw, rfl⟩) hS h

theorem kN (i : Nat) {oi : Oper} {fuel : Nat} {listed : Array Bool} {a : Act} {w : World} (hS : S w) (h : wpAnyH P md ops Q S fuel (listed.setIfInBounds i true) (a.put oi.dst undef) w)
    (hi : ops.toList[i]? = some oi := by exact rfl) (hQ : ∀ c a w, Q (.panic c) (a.put oi.dst undef) w → Q (.panic c) a w := by exact fun _ _ _ h => h) (hc : canTake md ops listed i = true := by decide +kernel) (hw : Region.wanted oi (yielded ops a.tmps) = false := by rfl) : wpAnyH P md ops Q S (fuel + 1) listed a w :=
  tkN i hS hi hQ hc hw h

/-- it yields v in every world that meets S -/
theorem tkY (i : Nat) {oi : Oper} {v : Value} {fuel : Nat} {listed : Array Bool} {a : Act} {w : World} (hS : S w) (hi : ops.toList[i]? = some oi) (hQ : ∀ c a w, Q (.panic c) (a.put oi.dst v) w → Q (.panic c) a w)
    (hc : canTake md ops listed i = true) (hw : Region.wanted oi (yielded ops a.tmps) = true) (hy : ∀ w, S w → (execOp a.eval oi).run P w = .ok (.value v) w)
    (h : wpAnyH P md ops Q S fuel (listed.setIfInBounds i true) (a.put oi.dst v) w) : wpAnyH P md ops Q S (fuel + 1) listed a w := by
  simp only [canTake, Bool.and_eq_true] at hc
  exact wpAnyH_take (by rw [← hi, Array.getElem?_toList]) hc.1.1 hc.1.2 hc.2 hQ (.inl ⟨hw, hy⟩) hS h

theorem kY (i : Nat) {oi : Oper} {v : Value} {fuel : Nat} {listed : Array Bool} {a : Act} {w : World} (hS : S w) (h : wpAnyH P md ops Q S fuel (listed.setIfInBounds i true) (a.put oi.dst v) w)
    (hi : ops.toList[i]? = some oi := by exact rfl) (hQ : ∀ c a w, Q (.panic c) (a.put oi.dst v) w → Q (.panic c) a w := by exact fun _ _ _ h => h) (hc : canTake md ops listed i = true := by decide +kernel) (hw : Region.wanted oi (yielded ops a.tmps) = true := by rfl) (hy : ∀ w, S w → (execOp a.eval oi).run P w = .ok (.value v) w := by intro w hS; (try dsimp only at hS); go_simp; try with_reducible rfl) : wpAnyH P md ops Q S (fuel + 1) listed a w :=
  tkY i hS hi hQ hc hw hy h

/-- it is the one that comes up, and is carried out -/
theorem spk (i : Nat) {oi : Oper} {fuel : Nat} {listed : Array Bool} {a : Act} {w : World} (hi : ops.toList[i]? = some oi)
    (hr : Region.ready md ops listed = [i]) (hw : Region.wanted oi (yielded ops a.tmps) = true)
    (h : ∀ K' : Act → World → Prop, Shut (∀ a w, S w → (S w → wpAnyH P md ops Q S fuel (listed.setIfInBounds i true) a w) → K' a w) → oi.wp P a w K' Q) : wpAnyH P md ops Q S (fuel + 1) listed a w := by
  refine wpAnyH_ready hr (by simp) ?_
  refine AllReadyH.cons (by rw [← hi, Array.getElem?_toList]) (fun K' hK => ?_) AllReadyH.nil
  rw [if_pos hw]
  exact h K' hK

theorem region_go {id : Nat} {a : Act} {w : World} (S : World → Prop) (hm : P.follows .mixedOrders = true) (hS : S w.drew)
    (h : S w.drew → wpAnyH P .any ops Q S ops.size (Array.replicate ops.size false) a w.drew) : (Code.region id ops true).wp P Q a w :=
  wp_region_held_drew hm hS h
end

end Go.Proofs.Ytjnkiloomdeljaa

namespace Go.Proofs.Ytjnkiloomdeljaa
open Go.RowKit

/-- in a region that draws its order: two may come up -/
theorem spB {P : Program} {ops : Array Oper} {Q : Exit → Act → World → Prop} {md : Region.Mode} {S : World → Prop} (i j : Nat) {oi oj : Oper} {fuel : Nat} {listed : Array Bool} {a : Act} {w : World} (hi : ops.toList[i]? = some oi) (hj : ops.toList[j]? = some oj)
    (hr : Region.ready md ops listed = [i, j]) (hwi : Region.wanted oi (yielded ops a.tmps) = true) (hwj : Region.wanted oj (yielded ops a.tmps) = true)
    (h : ∀ K' : Act → World → Prop, Shut (∀ a w, S w → (S w → wpAnyH P md ops Q S fuel (listed.setIfInBounds i true) a w) → K' a w) → oi.wp P a w K' Q)
    (h' : ∀ K' : Act → World → Prop, Shut (∀ a w, S w → (S w → wpAnyH P md ops Q S fuel (listed.setIfInBounds j true) a w) → K' a w) → oj.wp P a w K' Q) : wpAnyH P md ops Q S (fuel + 1) listed a w := by
  refine wpAnyH_ready hr (by simp) ?_
  refine AllReadyH.cons (by rw [← hi, Array.getElem?_toList]) (fun K' hK => ?_) (AllReadyH.cons (by rw [← hj, Array.getElem?_toList]) (fun K' hK => ?_) AllReadyH.nil)
  · rw [if_pos hwi]; exact h K' hK
  · rw [if_pos hwj]; exact h' K' hK

/-- the cells from o on become these -/
def setAt (xs : List Value) (o : Nat) : List Value → List Value
  | [] => xs
  | v :: r => setAt (xs.set o v) (o + 1) r

theorem own_setCell {w : World} {base e size n : Nat} {v : Value} {xs : List Value} {g o : Nat} (h : w.ownsRow base e size v n xs) (hg : v.ownBlock = some g) (ho : o < n * size) (u : Value) :
    (w.setCell ⟨g, o, none⟩ u).ownsRow base e size v n (xs.set o u) := by
  obtain ⟨h1, ⟨rfl, rfl⟩ | ⟨b, cap, cur, rfl, hb, hh, hn, hc, hs, ht⟩⟩ := h
  · simp [Value.ownBlock] at hg
  · simp only [Value.ownBlock, Option.some.injEq] at hg
    subst hg
    refine ⟨by simpa using h1, .inr ⟨b, cap, cur.setIfInBounds o u, rfl, hb, ?_, hn, hc, by simpa using hs, ?_⟩⟩
    · simp [World.setCell, Array.getElem?_modify, hh]
    · rw [← ht]
      simp [List.take_set]

theorem own_setCells {base e size n : Nat} {v : Value} {g : Nat} (hg : v.ownBlock = some g) : ∀ (vs : List Value) (o : Nat) (w : World) (xs : List Value), w.ownsRow base e size v n xs → o + vs.length ≤ n * size →
    (w.setCells g o vs).ownsRow base e size v n (setAt xs o vs)
  | [], _, _, _, h, _ => h
  | u :: r, o, w, xs, h, ho => by
    rw [World.setCells, setAt]
    simp only [List.length_cons] at ho
    exact own_setCells hg r (o + 1) _ _ (own_setCell h hg (by omega) u) (by omega)

theorem heap_size_setCells (g : Nat) : ∀ (vs : List Value) (o : Nat) (w : World), (w.setCells g o vs).heap.size = w.heap.size
  | [], _, _ => rfl
  | u :: r, o, w => by rw [World.setCells, heap_size_setCells g r]; simp [World.setCell]

theorem grownBy_setCells (g : Nat) : ∀ (vs : List Value) (o : Nat) (w : World), w.grownBy (w.setCells g o vs) (some g)
  | [], _, w => World.grownBy.refl w _
  | u :: r, o, w => by
    rw [World.setCells]
    obtain ⟨a1, a2, a3, a4, a5⟩ := grownBy_setCells g r (o + 1) (w.setCell ⟨g, o, none⟩ u)
    refine ⟨a1, a2, a3, ?_, fun k hk hne => ?_⟩
    · rw [heap_size_setCells]; simp [World.setCell]
    · rw [a5 k (by simpa [World.setCell] using hk) hne]
      exact Below.heap_setCell _ _ _ _ (fun e => hne (by rw [e]))

theorem own_rangeAt {w : World} {base e size n : Nat} {v : Value} {xs : List Value} {g : Nat} (h : w.ownsRow base e size v n xs) (hg : v.ownBlock = some g) (o : Nat) (cs : List Value) (hc : ∀ j u, cs[j]? = some u → xs[o + j]? = some u) : w.rangeAt g o cs := by
  obtain ⟨h1, ⟨rfl, rfl⟩ | ⟨b, cap, cur, rfl, hb, hh, hn, hm, hs, ht⟩⟩ := h
  · simp [Value.ownBlock] at hg
  · simp only [Value.ownBlock, Option.some.injEq] at hg
    subst hg
    intro j u hj
    have := hc j u hj
    rw [← ht, List.getElem?_take] at this
    split at this
    · simp only [World.cell?, hh]; simpa using this
    · cases this

theorem own_there {w : World} {base e size n : Nat} {v : Value} {xs : List Value} {g : Nat} (h : w.ownsRow base e size v n xs) (hg : v.ownBlock = some g) (o m : Nat) (hm : o + m ≤ n * size) : w.there g o m := by
  obtain ⟨h1, ⟨rfl, rfl⟩ | ⟨b, cap, cur, rfl, hb, hh, hn, hcm, hs, ht⟩⟩ := h
  · simp [Value.ownBlock] at hg
  · simp only [Value.ownBlock, Option.some.injEq] at hg
    subst hg
    have h1 : n * size ≤ cap * size := Nat.mul_le_mul_right _ hn
    intro j hj
    have hlt : o + j < cur.size := by omega
    refine ⟨?_, ?_⟩
    · simp [World.cell?, hh, hlt]
    · simp [World.frozen?, hh]

theorem setAt_flat2 (rs : List (Int × Value)) (i : Nat) (x : Int) (u : Value) : setAt (flat2 rs) (i * 2) [.int .u64 x, u] = flat2 (rs.set i (x, u)) := by
  simp only [setAt]
  induction rs generalizing i with
  | nil => simp [flat2]
  | cons r rs ih =>
    cases i with
    | zero => simp [flat2]
    | succ i =>
      have e1 : (i + 1) * 2 = i * 2 + 1 + 1 := by omega
      rw [e1]
      simp only [flat2, List.set_cons_succ]
      rw [ih i]

end Go.Proofs.Ytjnkiloomdeljaa
