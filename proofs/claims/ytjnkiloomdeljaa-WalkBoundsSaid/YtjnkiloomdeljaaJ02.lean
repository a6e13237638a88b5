/-
  Are two vectors the same (ref): for seats without vec.Right.
  Small laws for walking a region that draws its order: one operation at a time, what may be taken first first, an operation whose guard is false among them.
  A row of the call's own is written in its midst: cells, structs.
  best: which of two goes ahead; a vector, a hit are copied.
-/
import Derived.Test.YtjnkiloomdeljaaJ01
import Derived.Deep.RegionHeld3
import Derived.Deep.MidRow
import Derived.Deep.Upon
namespace Go.Proofs.Ytjnkiloomdeljaa
open Go.RowKit

theorem sameVecQ (xs ys : List Int) (v u : Value) (w : World) (h : Nums w .i32 v xs) (g : Nums w .i32 u ys) :
    Calls Try.prog 32 #[v, u] w fun e w' => e = .returned (.bool (decide (xs = ys))) ∧ Drawn w w' := by
  obtain ⟨p, cap, rfl, hcap, hbig, -, hc⟩ := h.slice
  have hl : xs.length ≤ 9223372036854775807 := by omega
  clear hcap hbig
  obtain ⟨q, cap', rfl, hcap', hbig', -, hc'⟩ := g.slice
  have hl' : ys.length ≤ 9223372036854775807 := by omega
  clear hcap' hbig'
  have H := Lib.hid h
  have G := Lib.hid g
  clear h g hc hc'
  by_cases h3 : xs.length = ys.length
  · have h4 : ((xs.length : Int) != ys.length) = false := by simp [h3]
    have H3 := Lib.hid h3
    clear h3
    go_enter Try.func32, Try.ntmps32
    go_wp2
    go_loopw [5, 13] (fun _ i wr => ∃ k : Nat, k ≤ xs.length ∧ i = .int .i64 k ∧ xs.take k = ys.take k ∧ Drawn w wr) (fun _ i _ => xs.length - (intOf i).toNat)
    case atStart => exact ⟨0, by omega, rfl, rfl, Drawn.refl _⟩
    case round =>
      obtain ⟨k, hk, rfl, hall, hb⟩ := hrel
      have A := Lib.hid (And.intro hall hb)
      clear hall hb
      by_cases hlt : k < xs.length
      · have hlt' : k < ys.length := by have := H3.out; omega
        obtain ⟨b, off, rfl, hcell⟩ := (H.out.below A.out.2.below).elem hlt
        obtain ⟨b', off', rfl, hcell'⟩ := (G.out.below A.out.2.below).elem hlt'
        have hl8 : ys.length ≤ 9223372036854775807 := by omega
        by_cases hx : xs[k] = ys[k]
        · have hne : (xs[k] != ys[k]) = false := by simp [hx]
          have E := Lib.hid hx
          clear hx
          go_wp2
          go_quiet (fail)
          go_wp2
          go_roundw
          case rel => exact ⟨k + 1, by omega, by go_num, by rw [List.take_succ_eq_append_getElem hlt, List.take_succ_eq_append_getElem hlt', A.out.1, E.out], A.out.2.drewN _⟩
          case measure => simp [intOf]; omega
        · have hne : (xs[k] != ys[k]) = true := by simp [hx]
          have E := Lib.hid hx
          clear hx
          go_wp2
          go_quiet (fail)
          go_wp2
          go_ret
          exact ⟨ret_bool (by simp; intro e; subst e; exact E.out rfl), A.out.2.drewN _⟩
      · go_wp2
        go_ret
        have h3 := H3.out
        have h4 := A.out.1
        rw [List.take_of_length_le (by omega), List.take_of_length_le (by omega)] at h4
        exact ⟨ret_bool (by simp [h4]), A.out.2⟩
  · have h4 : ((xs.length : Int) != ys.length) = true := by simp; omega
    go_enter Try.func32, Try.ntmps32
    go_wp2
    go_ret
    exact ⟨ret_bool (by simp; intro e; exact h3 (by rw [e])), Drawn.refl _⟩

theorem sameVec (xs ys : List Int) (v u : Value) (w : World) (h : Nums w .i32 v xs) (g : Nums w .i32 u ys) :
    Calls Try.prog 32 #[v, u] w fun e w' => e = .returned (.bool (decide (xs = ys))) ∧ Below w.heap.size w w' :=
  (sameVecQ xs ys v u w h g).mono fun _ _ ⟨a, b⟩ => ⟨a, b.below⟩

end Go.Proofs.Ytjnkiloomdeljaa

namespace Go.Proofs.Ytjnkiloomdeljaa
open Go.RowKit

section
variable {P : Program} {ops : Array Oper} {Q : Exit → Act → World → Prop} {md : Region.Mode} {S : World → Prop}

/-- number i may be taken first now, as far as the text tells -/
def canTake (md : Region.Mode) (ops : Array Oper) (listed : Array Bool) (i : Nat) : Bool := Region.noSelect ops && Region.free md ops listed i && (Region.ready md ops listed).contains i

/-- its guard is false: it is passed over -/
theorem tkN (i : Nat) {oi : Oper} {fuel : Nat} {listed : Array Bool} {a : Act} {w : World} (hS : S w) (hi : ops.toList[i]? = some oi) (hQ : ∀ c a w, Q (.panic c) (a.put oi.dst undef) w → Q (.panic c) a w)
    (hc : canTake md ops listed i = true) (hw : Region.wanted oi (yielded ops a.tmps) = false)
    (h : wpAnyH P md ops Q S fuel (listed.setIfInBounds i true) (a.put oi.dst undef) w) : wpAnyH P md ops Q S (fuel + 1) listed a w := by
  simp only [canTake, Bool.and_eq_true] at hc
  exact wpAnyH_take (by rw [← hi, Array.getElem?_toList]) hc.1.1 hc.1.2 hc.2 hQ (.inr ⟨hw, rfl⟩) hS h

theorem kN (i : Nat) {oi : Oper} {fuel : Nat} {listed : Array Bool} {a : Act} {w : World} (hS : S w) (h : wpAnyH P md ops Q S fuel (listed.setIfInBounds i true) (a.put oi.dst undef) w)
    (hi : ops.toList[i]? = some oi := by exact rfl) (hQ : ∀ c a w, Q (.panic c) (a.put oi.dst undef) w → Q (.panic c) a w := by exact fun _ _ _ h => h) (hc : canTake md ops listed i = true := by decide +kernel) (hw : Region.wanted oi (yielded ops a.tmps) = false := by rfl) : wpAnyH P md ops Q S (fuel + 1) listed a w :=
  tkN i hS hi hQ hc hw h

/-- it yields v in every world that meets S -/
theorem tkY (i : Nat) {oi : Oper} {v : Value} {fuel : Nat} {listed : Array Bool} {a : Act} {w : World} (hS : S w) (hi : ops.toList[i]? = some oi) (hQ : ∀ c a w, Q (.panic c) (a.put oi.dst v) w → Q (.panic c) a w)
    (hc : canTake md ops listed i = true) (hw : Region.wanted oi (yielded ops a.tmps) = true) (hy : ∀ w, S w → (execOp a.eval oi).run P w = .ok (.value v) w)
    (h : wpAnyH P md ops Q S fuel (listed.setIfInBounds i true) (a.put oi.dst v) w) : wpAnyH P md ops Q S (fuel + 1) listed a w := by
  simp only [canTake, Bool.and_eq_true] at hc
  exact wpAnyH_take (by rw [← hi, Array.getElem?_toList]) hc.1.1 hc.1.2 hc.2 hQ (.inl ⟨hw, hy⟩) hS h

theorem kY (i : Nat) {oi : Oper} {v : Value} {fuel : Nat} {listed : Array Bool} {a : Act} {w : World} (hS : S w) (h : wpAnyH P md ops Q S fuel (listed.setIfInBounds i true) (a.put oi.dst v) w)
    (hi : ops.toList[i]? = some oi := by exact rfl) (hQ : ∀ c a w, Q (.panic c) (a.put oi.dst v) w → Q (.panic c) a w := by exact fun _ _ _ h => h) (hc : canTake md ops listed i = true := by decide +kernel) (hw : Region.wanted oi (yielded ops a.tmps) = true := by rfl) (hy : ∀ w, S w → (execOp a.eval oi).run P w = .ok (.value v) w := by intro w hS; (try dsimp only at hS); go_simp; try with_reducible rfl) : wpAnyH P md ops Q S (fuel + 1) listed a w :=
  tkY i hS hi hQ hc hw hy h

/-- it is the one that comes up, and is carried out -/
theorem spk (i : Nat) {oi : Oper} {fuel : Nat} {listed : Array Bool} {a : Act} {w : World} (hi : ops.toList[i]? = some oi)
    (hr : Region.ready md ops listed = [i]) (hw : Region.wanted oi (yielded ops a.tmps) = true)
    (h : ∀ K' : Act → World → Prop, Shut (∀ a w, S w → (S w → wpAnyH P md ops Q S fuel (listed.setIfInBounds i true) a w) → K' a w) → oi.wp P a w K' Q) : wpAnyH P md ops Q S (fuel + 1) listed a w := by
  refine wpAnyH_ready hr (by simp) ?_
  refine AllReadyH.cons (by rw [← hi, Array.getElem?_toList]) (fun K' hK => ?_) AllReadyH.nil
  rw [if_pos hw]
  exact h K' hK

theorem region_go {id : Nat} {a : Act} {w : World} (S : World → Prop) (hm : P.follows .mixedOrders = true) (hS : S w.drew)
    (h : S w.drew → wpAnyH P .any ops Q S ops.size (Array.replicate ops.size false) a w.drew) : (Code.region id ops true).wp P Q a w :=
  wp_region_held_drew hm hS h
end

end Go.Proofs.Ytjnkiloomdeljaa

namespace Go.Proofs.Ytjnkiloomdeljaa
open Go.RowKit

/-- in a region that draws its order: two may come up -/
theorem spB {P : Program} {ops : Array Oper} {Q : Exit → Act → World → Prop} {md : Region.Mode} {S : World → Prop} (i j : Nat) {oi oj : Oper} {fuel : Nat} {listed : Array Bool} {a : Act} {w : World} (hi : ops.toList[i]? = some oi) (hj : ops.toList[j]? = some oj)
    (hr : Region.ready md ops listed = [i, j]) (hwi : Region.wanted oi (yielded ops a.tmps) = true) (hwj : Region.wanted oj (yielded ops a.tmps) = true)
    (h : ∀ K' : Act → World → Prop, Shut (∀ a w, S w → (S w → wpAnyH P md ops Q S fuel (listed.setIfInBounds i true) a w) → K' a w) → oi.wp P a w K' Q)
    (h' : ∀ K' : Act → World → Prop, Shut (∀ a w, S w → (S w → wpAnyH P md ops Q S fuel (listed.setIfInBounds j true) a w) → K' a w) → oj.wp P a w K' Q) : wpAnyH P md ops Q S (fuel + 1) listed a w := by
  refine wpAnyH_ready hr (by simp) ?_
  refine AllReadyH.cons (by rw [← hi, Array.getElem?_toList]) (fun K' hK => ?_) (AllReadyH.cons (by rw [← hj, Array.getElem?_toList]) (fun K' hK => ?_) AllReadyH.nil)
  · rw [if_pos hwi]; exact h K' hK
  · rw [if_pos hwj]; exact h' K' hK

/-- the cells from o on become these -/
def setAt (xs : List Value) (o : Nat) : List Value → List Value
  | [] => xs
  | v :: r => setAt (xs.set o v) (o + 1) r

theorem own_setCell {w : World} {base e size n : Nat} {v : Value} {xs : List Value} {g o : Nat} (h : w.ownsRow base e size v n xs) (hg : v.ownBlock = some g) (ho : o < n * size) (u : Value) :
    (w.setCell ⟨g, o, none⟩ u).ownsRow base e size v n (xs.set o u) := by
  obtain ⟨h1, ⟨rfl, rfl⟩ | ⟨b, cap, cur, rfl, hb, hh, hn, hc, hs, ht⟩⟩ := h
  · simp [Value.ownBlock] at hg
  · simp only [Value.ownBlock, Option.some.injEq] at hg
    subst hg
    refine ⟨by simpa using h1, .inr ⟨b, cap, cur.setIfInBounds o u, rfl, hb, ?_, hn, hc, by simpa using hs, ?_⟩⟩
    · simp [World.setCell, Array.getElem?_modify, hh]
    · rw [← ht]
      simp [List.take_set]

theorem own_setCells {base e size n : Nat} {v : Value} {g : Nat} (hg : v.ownBlock = some g) : ∀ (vs : List Value) (o : Nat) (w : World) (xs : List Value), w.ownsRow base e size v n xs → o + vs.length ≤ n * size →
    (w.setCells g o vs).ownsRow base e size v n (setAt xs o vs)
  | [], _, _, _, h, _ => h
  | u :: r, o, w, xs, h, ho => by
    rw [World.setCells, setAt]
    simp only [List.length_cons] at ho
    exact own_setCells hg r (o + 1) _ _ (own_setCell h hg (by omega) u) (by omega)

theorem heap_size_setCells (g : Nat) : ∀ (vs : List Value) (o : Nat) (w : World), (w.setCells g o vs).heap.size = w.heap.size
  | [], _, _ => rfl
  | u :: r, o, w => by rw [World.setCells, heap_size_setCells g r]; simp [World.setCell]

theorem grownBy_setCells (g : Nat) : ∀ (vs : List Value) (o : Nat) (w : World), w.grownBy (w.setCells g o vs) (some g)
  | [], _, w => World.grownBy.refl w _
  | u :: r, o, w => by
    rw [World.setCells]
    obtain ⟨a1, a2, a3, a4, a5⟩ := grownBy_setCells g r (o + 1) (w.setCell ⟨g, o, none⟩ u)
    refine ⟨a1, a2, a3, ?_, fun k hk hne => ?_⟩
    · rw [heap_size_setCells]; simp [World.setCell]
    · rw [a5 k (by simpa [World.setCell] using hk) hne]
      exact Below.heap_setCell _ _ _ _ (fun e => hne (by rw [e]))

theorem own_rangeAt {w : World} {base e size n : Nat} {v : Value} {xs : List Value} {g : Nat} (h : w.ownsRow base e size v n xs) (hg : v.ownBlock = some g) (o : Nat) (cs : List Value) (hc : ∀ j u, cs[j]? = some u → xs[o + j]? = some u) : w.rangeAt g o cs := by
  obtain ⟨h1, ⟨rfl, rfl⟩ | ⟨b, cap, cur, rfl, hb, hh, hn, hm, hs, ht⟩⟩ := h
  · simp [Value.ownBlock] at hg
  · simp only [Value.ownBlock, Option.some.injEq] at hg
    subst hg
    intro j u hj
    have := hc j u hj
    rw [← ht, List.getElem?_take] at this
    split at this
    · simp only [World.cell?, hh]; simpa using this
    · cases this

theorem own_there {w : World} {base e size n : Nat} {v : Value} {xs : List Value} {g : Nat} (h : w.ownsRow base e size v n xs) (hg : v.ownBlock = some g) (o m : Nat) (hm : o + m ≤ n * size) : w.there g o m := by
  obtain ⟨h1, ⟨rfl, rfl⟩ | ⟨b, cap, cur, rfl, hb, hh, hn, hcm, hs, ht⟩⟩ := h
  · simp [Value.ownBlock] at hg
  · simp only [Value.ownBlock, Option.some.injEq] at hg
    subst hg
    have h1 : n * size ≤ cap * size := Nat.mul_le_mul_right _ hn
    intro j hj
    have hlt : o + j < cur.size := by omega
    refine ⟨?_, ?_⟩
    · simp [World.cell?, hh, hlt]
    · simp [World.frozen?, hh]

theorem setAt_flat2 (rs : List (Int × Value)) (i : Nat) (x : Int) (u : Value) : setAt (flat2 rs) (i * 2) [.int .u64 x, u] = flat2 (rs.set i (x, u)) := by
  simp only [setAt]
  induction rs generalizing i with
  | nil => simp [flat2]
  | cons r rs ih =>
    cases i with
    | zero => simp [flat2]
    | succ i =>
      have e1 : (i + 1) * 2 = i * 2 + 1 + 1 := by omega
      rw [e1]
      simp only [flat2, List.set_cons_succ]
      rw [ih i]

end Go.Proofs.Ytjnkiloomdeljaa

namespace Go.Proofs.Ytjnkiloomdeljaa
open Go.RowKit

/-- a hit, but its vector: its ID and how far it is -/
def nearB (i d j e : Int) : Bool := decide (d < e) || (decide (d = e) && decide (i < j))

theorem nearer (i d j e : Int) (v u : Value) (w : World) :
    Calls Try.prog 50 #[.agg #[.int .u64 i, .int .u64 d, v], .agg #[.int .u64 j, .int .u64 e, u]] w fun r w' => r = .returned (.bool (nearB i d j e)) ∧ Below w.heap.size w w' := by
  by_cases h1 : d < e
  · go_enter Try.func50, Try.ntmps50
    go_wp2
    go_ret
    exact ⟨ret_bool (by simp [nearB, h1]), by go_grown⟩
  · have hd : decide (d < e) = false := by simp; omega
    by_cases h2 : d = e
    · have hde : (d == e) = true := by simp [h2]
      have E := Lib.hid h2
      clear h2
      go_enter Try.func50, Try.ntmps50
      go_wp2
      go_ret
      exact ⟨ret_bool (by have := E.out; simp [nearB, this]), by go_grown⟩
    · have hde : (d == e) = false := by simp [h2]
      go_enter Try.func50, Try.ntmps50
      go_wp2
      go_ret
      exact ⟨ret_bool (by simp [nearB, h1, h2]), by go_grown⟩

theorem refNearer (i d j e : Int) (v u : Value) (w : World) :
    Calls Try.prog 15 #[.agg #[.int .u64 i, .int .u64 d, v], .agg #[.int .u64 j, .int .u64 e, u]] w fun r w' => r = .returned (.bool (nearB i d j e)) ∧ Below w.heap.size w w' := by
  by_cases h2 : d = e
  · have hde : (d != e) = false := by simp [h2]
    have E := Lib.hid h2
    clear h2
    go_enter Try.func15, Try.ntmps15
    go_wp2
    go_ret
    exact ⟨ret_bool (by have := E.out; simp [nearB, this]), by go_grown⟩
  · have hde : (d != e) = true := by simp [h2]
    go_enter Try.func15, Try.ntmps15
    go_wp2
    go_ret
    exact ⟨ret_bool (by simp [nearB, h2]), by go_grown⟩

theorem cells_same {W w1 : World} (hb : Below W.heap.size W w1) : (∀ b o, b < W.heap.size → w1.cell? ⟨b, o, none⟩ = W.cell? ⟨b, o, none⟩) ∧ (∀ b o, b < W.heap.size → w1.frozen? ⟨b, o, none⟩ = W.frozen? ⟨b, o, none⟩) :=
  ⟨fun _ _ h => hb.cell h, fun _ _ h => hb.frozen h⟩

/-- of two: the one ahead -/
def orderZ (i d j e : Int) : Int := if nearB i d j e = true then -1 else if nearB j e i d = true then 1 else 0

theorem order (i d j e : Int) (v u : Value) (w : World) :
    Calls Try.prog 71 #[.agg #[.int .u64 i, .int .u64 d, v], .agg #[.int .u64 j, .int .u64 e, u]] w fun r w' => r = .returned (.int .i64 (orderZ i d j e)) ∧ Below w.heap.size w w' := by
  have N1 := Lib.hid (fun W => nearer i d j e v u W)
  have N2 := Lib.hid (fun W => nearer j e i d u v W)
  have E := Lib.hid (show orderZ i d j e = if nearB i d j e = true then -1 else if nearB j e i d = true then 1 else 0 from rfl)
  generalize orderZ i d j e = x at *
  generalize nearB i d j e = p at *
  generalize nearB j e i d = q at *
  go_enter Try.func71, Try.ntmps71
  go_wp2_with fail
  have hb0 : Below w.heap.size w ((w.alloc (.cells #[.int .u64 i, .int .u64 d, v] 43)).alloc (.cells #[.int .u64 j, .int .u64 e, u] 43)) := ((Below.refl _ _).alloc (Nat.le_refl _) _).alloc (by simp) _
  have B0 := Lib.hid hb0
  clear hb0
  refine (N1.out _).mono ?_
  rintro r w1 ⟨rfl, hb1⟩
  obtain ⟨hc, hf⟩ := cells_same hb1
  have B1 := Lib.hid (B0.out.trans (hb1.mono B0.out.size))
  clear hb1
  cases p
  · go_wp2_with fail
    refine (N2.out _).mono ?_
    rintro r w2 ⟨rfl, hb2⟩
    have B2 := Lib.hid (B1.out.trans (hb2.mono B1.out.size))
    clear hb2
    cases q
    all_goals
      go_wp2_with fail
      go_ret
      exact ⟨ret_int (by rw [E.out]; rfl), B2.out⟩
  · go_wp2_with fail
    go_ret
    exact ⟨ret_int (by rw [E.out]; rfl), B1.out⟩

theorem clone (xs : List Int) (v : Value) (w : World) (h : Nums w .i32 v xs) (hr : xs.length ≤ 1000000) :
    Calls Try.prog 61 #[v] w (NewNums w .i32 21 xs) := by
  obtain ⟨p, cap, rfl, h1, h2, h3, h4⟩ := h.slice
  obtain ⟨i0, hi, hz0, hz1, hz2⟩ := info_parts infoI32
  have H := Lib.hid h
  have R := Lib.hid hr
  clear h4 hr h
  have qN : ∀ (w : World) (a : Option Addr) (n c : Nat), (binOp .eql 41 (.slice a n c) (.slice none 0 0)).run Try.prog w = .ok (.bool a.isNone) w := fun w a n c => Lib.run_eql_slice_nil w _ _ a n c 0 0 Try.underlying41
  cases p with
  | none =>
    obtain rfl := h3 rfl
    have hl : xs = [] := List.eq_nil_of_length_eq_zero (by omega)
    subst hl
    clear h1 h2 h3
    go_enter Try.func61, Try.ntmps61
    go_wp2_with fail
    go_ret
    exact ⟨_, rfl, World.ownsRow_nil _ _ _ _, Below.refl _ _⟩
  | some a =>
    have key : ∀ w1 : World, Below w.heap.size w w1 → ∀ j u, (xs.map (Value.int .i32))[j]? = some u → w1.cell? (a.add j) = some u := by
      intro w1 hb j u hj
      rw [List.getElem?_map, Option.map_eq_some_iff] at hj
      obtain ⟨x, hx, rfl⟩ := hj
      obtain ⟨hj', rfl⟩ := List.getElem?_eq_some_iff.1 hx
      obtain ⟨b, off, hp, hc⟩ := (H.out.below hb).elem hj'
      simp only [Option.some.injEq] at hp
      subst hp
      rw [Addr.add_lit]; exact hc
    have K := Lib.hid key
    clear key h3
    go_enter Try.func61, Try.ntmps61
    go_wp2_with (at_builtin; refine wpList_append_own _ rfl _ _ 41 rfl w.heap.size 21 i0 (.int .i32 0) 1 4 Try.underlying41 hi hz0 hz1 hz2 rfl (by decide) _ 0 [] rfl (by exact ⟨rfl, .inr ⟨_, _, #[], rfl, Nat.le_refl _, heap_alloc_new _ _, Nat.le_refl _, by simp [maxLen], rfl, rfl⟩⟩) a xs.length cap (xs.map (Value.int .i32)) rfl (by simp <;> omega) (by exact K.out _ ((Below.refl _ _).alloc (Nat.le_refl _) _)) ints_one (by simp [maxLen]; have := R.out; omega) (by have := R.out; omega) (by simp) ?_)
    intro v' w1 hown hg _
    go_wp2
    go_ret
    exact ⟨v', rfl, by simpa using hown, ((Below.refl _ _).alloc (Nat.le_refl _) _).grown hg (by simp) (by simp [Value.ownBlock])⟩

theorem results_cell_mid {P : Program} {fn : Func} {p : Tmp} {ty : TypeId} (h : fn.results = #[.cell p ty]) (tmps : Array Value) (w : World) (g o : Nat) (cs : List Value) (d : TypeDesc)
    (hp : tmps.getD p undef = .pointer (some ⟨g, o, none⟩)) (hc : w.rangeAt g o cs) (hu : P.underlying ty = some d) (hd : d.isRow = true) (hi : (P.info? ty).map (·.size) = some cs.length) :
    (results fn tmps).run P w = .ok (.agg cs.toArray) w := by
  have hp' : tmps[p]?.getD undef = .pointer (some ⟨g, o, none⟩) := by simpa using hp
  simp [results, h, hp', asAddr, run_loadVar_mid w g o ty cs d hc hu hd hi]

theorem below_frozen {w w' : World} (hb : Below w.heap.size w w') {a : Addr} (ha : a.block < w.heap.size) (h : w.frozen? a = false) : w'.frozen? a = false := by
  rw [World.frozen?_of_block (hb.block _ ha)]; exact h

/-- a hit that is new: its vector is the call's own -/
def NewHit (w : World) (e : Nat) (h : Hz) (r : Ending) (w' : World) : Prop :=
  ∃ u, r = .returned (.agg #[.int .u64 h.id, .int .u64 h.dist, u]) ∧ w'.ownsRow w.heap.size e 1 u h.vec.length (h.vec.map (Value.int .i32)) ∧ Below w.heap.size w w'

def NewHitAt (w : World) (e : Nat) (h : Hz) (u : Value) (w' : World) : Prop :=
  w'.ownsRow w.heap.size e 1 u h.vec.length (h.vec.map (Value.int .i32)) ∧ Below w.heap.size w w' ∧ w'.rangeAt (w.heap.size + 1) 0 [.int .u64 h.id, .int .u64 h.dist, u]

theorem copyOf (h : Hz) (v : Value) (w : World) (hv : Nums w .i32 v h.vec) (hr : h.vec.length ≤ 1000000) :
    Calls Try.prog 51 #[.agg #[.int .u64 h.id, .int .u64 h.dist, v]] w (NewHit w 21 h) := by
  obtain ⟨p, cap, rfl, -, -, -, -⟩ := hv.slice
  have H := Lib.hid hv
  clear hv
  go_enter Try.func51, Try.ntmps51
  go_wp2_with fail
  have G := Lib.hid (((Below.refl w.heap.size w).alloc (Nat.le_refl _) (Obj.cells #[Value.int IntKind.u64 h.id, Value.int IntKind.u64 h.dist, Value.slice p h.vec.length cap] 43)).alloc (by simp) (Obj.cells #[Value.int IntKind.u64 0, Value.int IntKind.u64 0, Value.slice none 0 0] 43))
  refine (clone h.vec _ _ (H.out.below G.out) hr).mono ?_
  rintro e w' ⟨u, rfl, hown, hb⟩
  have c0 := below_cells hb (a := ⟨w.heap.size, 0, none⟩) (v := .int .u64 h.id) (by go_simp)
  have c1 := below_cells hb (a := ⟨w.heap.size, 1, none⟩) (v := .int .u64 h.dist) (by go_simp)
  have c2 := below_cells hb (a := ⟨w.heap.size, 2, none⟩) (v := .slice p h.vec.length cap) (by go_simp)
  have d0 := below_cells hb (a := ⟨w.heap.size + 1, 0, none⟩) (v := .int .u64 0) (by go_simp)
  have d1 := below_cells hb (a := ⟨w.heap.size + 1, 1, none⟩) (v := .int .u64 0) (by go_simp)
  have d2 := below_cells hb (a := ⟨w.heap.size + 1, 2, none⟩) (v := .slice none 0 0) (by go_simp)
  have f2 := below_frozen hb (a := ⟨w.heap.size, 2, none⟩) (by simp; omega) (by go_simp)
  have e0 := below_frozen hb (a := ⟨w.heap.size + 1, 0, none⟩) (by simp) (by go_simp)
  have e1 := below_frozen hb (a := ⟨w.heap.size + 1, 1, none⟩) (by simp) (by go_simp)
  have e2 := below_frozen hb (a := ⟨w.heap.size + 1, 2, none⟩) (by simp) (by go_simp)
  obtain ⟨q, m, k, rfl⟩ := own_form hown
  have O := Lib.hid (And.intro hown hb)
  clear hown hb
  go_wp2_with fail
  have F : NewHitAt w 21 h (.slice q m k) ((((w'.setCell ⟨w.heap.size, 2, none⟩ (.slice q m k)).setCell ⟨w.heap.size + 1, 0, none⟩ (.int .u64 h.id)).setCell ⟨w.heap.size + 1, 1, none⟩ (.int .u64 h.dist)).setCell ⟨w.heap.size + 1, 2, none⟩ (.slice q m k)) := by
    have hlt : ∀ b, (Value.slice q m k).ownBlock = some b → w.heap.size + 2 ≤ b := fun b hb => by have := (O.out.1.lt b hb).1; simpa using this
    refine ⟨?_, ?_, ?_⟩
    · have h1 := own_mono O.out.1 (base' := w.heap.size) (by simp; omega)
      refine ownsRow_setCell_other (ownsRow_setCell_other (ownsRow_setCell_other (ownsRow_setCell_other h1 ?_ _) ?_ _) ?_ _) ?_ _
      all_goals exact fun e => by have := hlt _ e; dsimp only at this; omega
    · exact (((((G.out.trans (O.out.2.mono G.out.size)).setCell (by simp) _).setCell (by simp) _).setCell (by simp) _).setCell (by simp) _)
    · have x0 : (w'.setCell ⟨w.heap.size, 2, none⟩ (.slice q m k)).cell? ⟨w.heap.size + 1, 0, none⟩ = some (.int .u64 0) := by rw [World.cell?_setCell_other _ _ _ _ (by simp)]; exact d0
      have x1 : ((w'.setCell ⟨w.heap.size, 2, none⟩ (.slice q m k)).setCell ⟨w.heap.size + 1, 0, none⟩ (.int .u64 h.id)).cell? ⟨w.heap.size + 1, 1, none⟩ = some (.int .u64 0) := by
        rw [World.cell?_setCell_other _ _ _ _ (by simp), World.cell?_setCell_other _ _ _ _ (by simp)]; exact d1
      have x2 : (((w'.setCell ⟨w.heap.size, 2, none⟩ (.slice q m k)).setCell ⟨w.heap.size + 1, 0, none⟩ (.int .u64 h.id)).setCell ⟨w.heap.size + 1, 1, none⟩ (.int .u64 h.dist)).cell? ⟨w.heap.size + 1, 2, none⟩ = some (.slice none 0 0) := by
        rw [World.cell?_setCell_other _ _ _ _ (by simp), World.cell?_setCell_other _ _ _ _ (by simp), World.cell?_setCell_other _ _ _ _ (by simp)]; exact d2
      intro j v hj
      match j, hj with
      | 0, hj => rw [World.cell?_setCell_other _ _ _ _ (by simp), World.cell?_setCell_other _ _ _ _ (by simp), World.cell?_setCell_same _ _ _ x0]; simpa using hj
      | 1, hj => rw [World.cell?_setCell_other _ _ _ _ (by simp), World.cell?_setCell_same _ _ _ x1]; simpa using hj
      | 2, hj => rw [World.cell?_setCell_same _ _ _ x2]; simpa using hj
      | (n + 3), hj => simp at hj
  clear c0 c1 c2 d0 d1 d2 f2 e0 e1 e2
  generalize (((w'.setCell ⟨w.heap.size, 2, none⟩ (.slice q m k)).setCell ⟨w.heap.size + 1, 0, none⟩ (.int .u64 h.id)).setCell ⟨w.heap.size + 1, 1, none⟩ (.int .u64 h.dist)).setCell ⟨w.heap.size + 1, 2, none⟩ (.slice q m k) = W3 at *
  refine bodyPost_ret (results_cell_mid (p := 2) (by kernel_rfl) _ W3 (w.heap.size + 1) 0 [.int .u64 h.id, .int .u64 h.dist, .slice q m k] _ (by rfl) F.2.2 Try.underlying43 rfl (by kernel_rfl)) rfl ?_
  exact ⟨_, rfl, F.1, F.2.1⟩

end Go.Proofs.Ytjnkiloomdeljaa
