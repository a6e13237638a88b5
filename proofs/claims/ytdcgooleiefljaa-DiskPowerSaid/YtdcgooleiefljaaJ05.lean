/-
  Appends to a row of the call's own, as run equations: of a slice that is read, of an element that lies in a block of its own.
  Small laws for walking a region that draws its order: one operation at a time, what may be taken first first, an operation whose guard is false among them.
  A row of the call's own is written in its midst: cells, structs.
  A row of the call's own that is cut from in front: to read it, to cut it, one element more at its end.
-/
import Derived.Test.YtdcgooleiefljaaJ04
import Derived.Laws.OwnMore
import Derived.Maps.AppendAt
import Derived.Test.YtdcgooleiefljaaJ01
import Derived.Deep.RegionHeld3
import Derived.Deep.MidRow
import Derived.Deep.Upon
import Derived.Deep.AppendSrc
namespace Go.Proofs.Ytdcgooleiefljaa
open Go.RowKit

/-- the cells of a slice that is read -/
structure SrcAt (w : World) (p : Option Addr) (m c size : Nat) (news : List Value) : Prop where
  len : news.length = m * size
  nil : p = none → m = 0 ∧ c = 0
  cells : ∀ a, p = some a → ∀ j u, news[j]? = some u → w.cell? (a.add j) = some u

theorem SrcAt.agree {w w' : World} {p : Option Addr} {m c size : Nat} {news : List Value} (h : SrcAt w p m c size news) (hk : ∀ (a : Addr) (u : Value), w.cell? a = some u → w'.cell? a = some u) : SrcAt w' p m c size news :=
  ⟨h.len, h.nil, fun a ha j u hj => hk _ _ (h.cells a ha j u hj)⟩

theorem SrcAt.below {w w' : World} {p : Option Addr} {m c size : Nat} {news : List Value} (h : SrcAt w p m c size news) (hb : Below w.heap.size w w') : SrcAt w' p m c size news :=
  h.agree fun _ _ => below_cells hb

theorem SrcAt.of_own {w : World} {base e size n m c : Nat} {p : Option Addr} {xs : List Value} (h : w.ownsRow base e size (.slice p m c) n xs) : SrcAt w p n c size xs := by
  obtain ⟨h1, ⟨h2, h3⟩ | ⟨g, cap, cur, hv, hb, hg, hn, hc, hs, ht⟩⟩ := h
  · obtain ⟨rfl, rfl, rfl⟩ := Value.slice.inj h2
    exact ⟨h1, fun _ => ⟨h3, rfl⟩, fun a ha => by cases ha⟩
  · obtain ⟨rfl, rfl, rfl⟩ := Value.slice.inj hv
    refine ⟨h1, (by simp), fun a ha j u hj => ?_⟩
    obtain rfl := Option.some.inj ha
    rw [← ht, List.getElem?_take] at hj
    split at hj
    · rw [Addr.add_lit, Nat.zero_add]
      simp only [World.cell?, hg]; simpa using hj
    · cases hj

theorem SrcAt.of_nums {w : World} {k : IntKind} {p : Option Addr} {m c : Nat} {xs : List Int} (h : Nums w k (.slice p m c) xs) : SrcAt w p xs.length c 1 (xs.map (Value.int k)) := by
  obtain ⟨p', cap, hv, h1, h2, h3, h4⟩ := h.slice
  obtain ⟨rfl, rfl, rfl⟩ := Value.slice.inj hv
  refine ⟨by simp, fun hp => ?_, fun a ha j u hj => ?_⟩
  · have := h3 hp; exact ⟨by omega, this⟩
  · rw [List.getElem?_map, Option.map_eq_some_iff] at hj
    obtain ⟨x, hx, rfl⟩ := hj
    obtain ⟨hj', rfl⟩ := List.getElem?_eq_some_iff.1 hx
    obtain ⟨b, off, hp, hc⟩ := h4 j hj'
    rw [ha] at hp
    obtain rfl := Option.some.inj hp
    rw [Addr.add_lit]
    exact hc

section
variable {P : Program}

theorem run_app {t e size bytes : Nat} {z : Value} (R : RowTy P t e size bytes z) {w : World} {base : Nat} {v : Value} {n : Nat} {xs : List Value} (hown : w.ownsRow base e size v n xs) (hbase : base ≤ w.heap.size)
    {p : Option Addr} {m c : Nat} {news : List Value} (hs : SrcAt w p m c size news) (h1 : ∀ u ∈ news, u.oneCell' = true) (h63 : n + m ≤ maxLen) (hbytes : (n + m) * bytes ≤ 140737488355328) :
    ∃ q k c' w', (∀ ty, (Builtin.append_ #[t, t] ty #[v, .slice p m c]).run P w = .ok (.slice q k c') w') ∧ w'.ownsRow base e size (.slice q k c') (n + m) (xs ++ news) ∧ w.grownBy w' v.ownBlock ∧
      ((Value.slice q k c').ownBlock = v.ownBlock ∨ (Value.slice q k c').ownBlock = some w.heap.size) := by
  obtain ⟨i, hi, hz, hsz, hb⟩ := info_parts R.info
  cases p with
  | none =>
    obtain ⟨rfl, rfl⟩ := hs.nil rfl
    have hn : news = [] := List.eq_nil_of_length_eq_zero (by rw [hs.len]; simp)
    subst hn
    obtain ⟨q, k, c', rfl⟩ := own_form hown
    exact ⟨q, k, c', w, fun ty => run_append_owned_none w base t ty e i size R.ty hi _ n xs hown, by simpa using hown, World.grownBy.refl w _, .inl rfl⟩
  | some a =>
    obtain ⟨v', w', hr, h2, h3, _, h5⟩ := run_append_own_at (P := P) w base t 0 e i z size bytes R.ty hi hz hsz hb R.zs R.pos v n xs hown a m c news hs.len (hs.cells a rfl) h1 h63 hbytes hbase
    obtain ⟨q, k, c', rfl⟩ := own_form h2
    exact ⟨q, k, c', w', fun ty => hr, h2, h3, h5⟩

/-- the element's cells lie in block g0 -/
theorem run_push_at {t e size bytes : Nat} {z : Value} (R : RowTy P t e size bytes z) {w : World} {base : Nat} {v : Value} {n : Nat} {xs : List Value} (hown : w.ownsRow base e size v n xs) (hbase : base ≤ w.heap.size)
    {g0 : Nat} {cs : Array Value} {te : TypeId} {fr : Nat × Nat} (hg : w.heap[g0]? = some (.cells cs te fr)) (hcs : cs.size = size) (h1 : ∀ u ∈ cs.toList, u.oneCell' = true) (h63 : n + 1 ≤ maxLen) (hbytes : (n + 1) * bytes ≤ 140737488355328) :
    ∃ g cap w', (∀ ty, (Builtin.append_ #[t, t] ty #[v, .slice (some ⟨g0, 0, none⟩) 1 1]).run P w = .ok (.slice (some ⟨g, 0, none⟩) (n + 1) cap) w') ∧
      w'.ownsRow base e size (.slice (some ⟨g, 0, none⟩) (n + 1) cap) (n + 1) (xs ++ cs.toList) ∧ w.grownBy w' v.ownBlock ∧ (v.ownBlock = some g ∨ g = w.heap.size) ∧ g < w'.heap.size := by
  obtain ⟨i, hi, hz, hs, hb⟩ := info_parts R.info
  obtain ⟨g, cap, w', hr, h2, h3, h4, h5⟩ := run_append_lies (P := P) w t 0 base e i z size bytes R.ty hi hz hs hb R.zs R.pos v n xs hown ⟨g0, 0, none⟩ 1 1 cs.toList (by simp [hcs])
    (World.news_of_block (cs := cs) (t := te) (fr := fr) hg) h1 (by omega) h63 hbytes hbase w.heap.size rfl
  exact ⟨g, cap, w', fun ty => hr, h2, h3, h4, h5⟩

end

theorem own_empty (w : World) (base e size : Nat) (hb : base ≤ w.heap.size) : (w.alloc (.cells #[] e)).ownsRow base e size (.slice (some ⟨w.heap.size, 0, none⟩) 0 0) 0 [] :=
  ⟨by simp, .inr ⟨_, _, #[], rfl, hb, heap_alloc_new _ _, Nat.le_refl _, by simp [maxLen], by simp, by simp⟩⟩

theorem exists_list2 {α : Type} (n : Nat) {p : Nat → α → Prop} (h : ∀ i, i < n → ∃ x, p i x) : ∃ l : List α, l.length = n ∧ ∀ i (hi : i < l.length), p i l[i] := by
  induction n with
  | zero => exact ⟨[], rfl, fun i hi => absurd hi (by simp)⟩
  | succ n ih =>
    obtain ⟨l, hl, hp⟩ := ih fun i hi => h i (by omega)
    obtain ⟨x, hx⟩ := h n (by omega)
    refine ⟨l ++ [x], by simp [hl], fun i hi => ?_⟩
    simp only [List.length_append, List.length_cons, List.length_nil] at hi
    rcases Nat.lt_or_ge i l.length with h1 | h1
    · rw [List.getElem_append_left h1]; exact hp i h1
    · have e : i = n := by omega
      subst e
      rw [List.getElem_append_right (by omega)]
      simp [hl, hx]

end Go.Proofs.Ytdcgooleiefljaa

namespace Go.Proofs.Ytdcgooleiefljaa
open Go.RowKit

section
variable {P : Program} {ops : Array Oper} {Q : Exit → Act → World → Prop} {md : Region.Mode} {S : World → Prop}

/-- number i may be taken first now, as far as the text tells -/
def canTake (md : Region.Mode) (ops : Array Oper) (listed : Array Bool) (i : Nat) : Bool := Region.noSelect ops && Region.free md ops listed i && (Region.ready md ops listed).contains i

/-- its guard is false: it is passed over -/
theorem tkN (i : Nat) {oi : Oper} {fuel : Nat} {listed : Array Bool} {a : Act} {w : World} (hS : S w) (hi : ops.toList[i]? = some oi) (hQ : ∀ c a w, Q (.panic c) (a.put oi.dst undef) w → Q (.panic c) a w)
    (hc : canTake md ops listed i = true) (hw : Region.wanted oi (yielded ops a.tmps) = false)
    (h : wpAnyH P md ops Q S fuel (listed.setIfInBounds i true) (a.put oi.dst undef) w) : wpAnyH P md ops Q S (fuel + 1) listed a w := by
  simp only [canTake, Bool.and_eq_true] at hc
  exact wpAnyH_take (by rw [← hi, Array.getElem?_toList]) hc.1.1 hc.1.2 hc.2 hQ (.inr ⟨hw, rfl⟩) hS h

theorem kN (i : Nat) {oi : Oper} {fuel : Nat} {listed : Array Bool} {a : Act} {w : World} (hS : S w) (h : wpAnyH P md ops Q S fuel (listed.setIfInBounds i true) (a.put oi.dst undef) w)
    (hi : ops.toList[i]? = some oi := by exact rfl) (hQ : ∀ c a w, Q (.panic c) (a.put oi.dst undef) w → Q (.panic c) a w := by exact fun _ _ _ h => h) (hc : canTake md ops listed i = true := by decide +kernel) (hw : Region.wanted oi (yielded ops a.tmps) = false := by rfl) : wpAnyH P md ops Q S (fuel + 1) listed a w :=
  tkN i hS hi hQ hc hw h

/-- it yields v in every world that meets S -/
theorem tkY (i : Nat) {oi : Oper} {v : Value} {fuel : Nat} {listed : Array Bool} {a : Act} {w : World} (hS : S w) (hi : ops.toList[i]? = some oi) (hQ : ∀ c a w, Q (.panic c) (a.put oi.dst v) w → Q (.panic c) a w)
    (hc : canTake md ops listed i = true) (hw : Region.wanted oi (yielded ops a.tmps) = true) (hy : ∀ w, S w → (execOp a.eval oi).run P w = .ok (.value v) w)
    (h : wpAnyH P md ops Q S fuel (listed.setIfInBounds i true) (a.put oi.dst v) w) : wpAnyH P md ops Q S (fuel + 1) listed a w := by
  simp only [canTake, Bool.and_eq_true] at hc
  exact wpAnyH_take (by rw [← hi, Array.getElem?_toList]) hc.1.1 hc.1.2 hc.2 hQ (.inl ⟨hw, hy⟩) hS h

theorem kY (i : Nat) {oi : Oper} {v : Value} {fuel : Nat} {listed : Array Bool} {a : Act} {w : World} (hS : S w) (h : wpAnyH P md ops Q S fuel (listed.setIfInBounds i true) (a.put oi.dst v) w)
    (hi : ops.toList[i]? = some oi := by exact rfl) (hQ : ∀ c a w, Q (.panic c) (a.put oi.dst v) w → Q (.panic c) a w := by exact fun _ _ _ h => h) (hc : canTake md ops listed i = true := by decide +kernel) (hw : Region.wanted oi (yielded ops a.tmps) = true := by rfl) (hy : ∀ w, S w → (execOp a.eval oi).run P w = .ok (.value v) w := by intro w hS; (try dsimp only at hS); go_simp; try with_reducible rfl) : wpAnyH P md ops Q S (fuel + 1) listed a w :=
  tkY i hS hi hQ hc hw hy h

/-- it is the one that comes up, and is carried out -/
theorem spk (i : Nat) {oi : Oper} {fuel : Nat} {listed : Array Bool} {a : Act} {w : World} (hi : ops.toList[i]? = some oi)
    (hr : Region.ready md ops listed = [i]) (hw : Region.wanted oi (yielded ops a.tmps) = true)
    (h : ∀ K' : Act → World → Prop, Shut (∀ a w, S w → (S w → wpAnyH P md ops Q S fuel (listed.setIfInBounds i true) a w) → K' a w) → oi.wp P a w K' Q) : wpAnyH P md ops Q S (fuel + 1) listed a w := by
  refine wpAnyH_ready hr (by simp) ?_
  refine AllReadyH.cons (by rw [← hi, Array.getElem?_toList]) (fun K' hK => ?_) AllReadyH.nil
  rw [if_pos hw]
  exact h K' hK

theorem region_go {id : Nat} {a : Act} {w : World} (S : World → Prop) (hm : P.follows .mixedOrders = true) (hS : S w.drew)
    (h : S w.drew → wpAnyH P .any ops Q S ops.size (Array.replicate ops.size false) a w.drew) : (Code.region id ops true).wp P Q a w :=
  wp_region_held_drew hm hS h
end

end Go.Proofs.Ytdcgooleiefljaa

namespace Go.Proofs.Ytdcgooleiefljaa
open Go.RowKit

/-- in a region that draws its order: two may come up -/
theorem spB {P : Program} {ops : Array Oper} {Q : Exit → Act → World → Prop} {md : Region.Mode} {S : World → Prop} (i j : Nat) {oi oj : Oper} {fuel : Nat} {listed : Array Bool} {a : Act} {w : World} (hi : ops.toList[i]? = some oi) (hj : ops.toList[j]? = some oj)
    (hr : Region.ready md ops listed = [i, j]) (hwi : Region.wanted oi (yielded ops a.tmps) = true) (hwj : Region.wanted oj (yielded ops a.tmps) = true)
    (h : ∀ K' : Act → World → Prop, Shut (∀ a w, S w → (S w → wpAnyH P md ops Q S fuel (listed.setIfInBounds i true) a w) → K' a w) → oi.wp P a w K' Q)
    (h' : ∀ K' : Act → World → Prop, Shut (∀ a w, S w → (S w → wpAnyH P md ops Q S fuel (listed.setIfInBounds j true) a w) → K' a w) → oj.wp P a w K' Q) : wpAnyH P md ops Q S (fuel + 1) listed a w := by
  refine wpAnyH_ready hr (by simp) ?_
  refine AllReadyH.cons (by rw [← hi, Array.getElem?_toList]) (fun K' hK => ?_) (AllReadyH.cons (by rw [← hj, Array.getElem?_toList]) (fun K' hK => ?_) AllReadyH.nil)
  · rw [if_pos hwi]; exact h K' hK
  · rw [if_pos hwj]; exact h' K' hK

/-- the cells from o on become these -/
def setAt (xs : List Value) (o : Nat) : List Value → List Value
  | [] => xs
  | v :: r => setAt (xs.set o v) (o + 1) r

theorem own_setCell {w : World} {base e size n : Nat} {v : Value} {xs : List Value} {g o : Nat} (h : w.ownsRow base e size v n xs) (hg : v.ownBlock = some g) (ho : o < n * size) (u : Value) :
    (w.setCell ⟨g, o, none⟩ u).ownsRow base e size v n (xs.set o u) := by
  obtain ⟨h1, ⟨rfl, rfl⟩ | ⟨b, cap, cur, rfl, hb, hh, hn, hc, hs, ht⟩⟩ := h
  · simp [Value.ownBlock] at hg
  · simp only [Value.ownBlock, Option.some.injEq] at hg
    subst hg
    refine ⟨by simpa using h1, .inr ⟨b, cap, cur.setIfInBounds o u, rfl, hb, ?_, hn, hc, by simpa using hs, ?_⟩⟩
    · simp [World.setCell, Array.getElem?_modify, hh]
    · rw [← ht]
      simp [List.take_set]

theorem own_setCells {base e size n : Nat} {v : Value} {g : Nat} (hg : v.ownBlock = some g) : ∀ (vs : List Value) (o : Nat) (w : World) (xs : List Value), w.ownsRow base e size v n xs → o + vs.length ≤ n * size →
    (w.setCells g o vs).ownsRow base e size v n (setAt xs o vs)
  | [], _, _, _, h, _ => h
  | u :: r, o, w, xs, h, ho => by
    rw [World.setCells, setAt]
    simp only [List.length_cons] at ho
    exact own_setCells hg r (o + 1) _ _ (own_setCell h hg (by omega) u) (by omega)

theorem heap_size_setCells (g : Nat) : ∀ (vs : List Value) (o : Nat) (w : World), (w.setCells g o vs).heap.size = w.heap.size
  | [], _, _ => rfl
  | u :: r, o, w => by rw [World.setCells, heap_size_setCells g r]; simp [World.setCell]

theorem grownBy_setCells (g : Nat) : ∀ (vs : List Value) (o : Nat) (w : World), w.grownBy (w.setCells g o vs) (some g)
  | [], _, w => World.grownBy.refl w _
  | u :: r, o, w => by
    rw [World.setCells]
    obtain ⟨a1, a2, a3, a4, a5⟩ := grownBy_setCells g r (o + 1) (w.setCell ⟨g, o, none⟩ u)
    refine ⟨a1, a2, a3, ?_, fun k hk hne => ?_⟩
    · rw [heap_size_setCells]; simp [World.setCell]
    · rw [a5 k (by simpa [World.setCell] using hk) hne]
      exact Below.heap_setCell _ _ _ _ (fun e => hne (by rw [e]))

theorem own_rangeAt {w : World} {base e size n : Nat} {v : Value} {xs : List Value} {g : Nat} (h : w.ownsRow base e size v n xs) (hg : v.ownBlock = some g) (o : Nat) (cs : List Value) (hc : ∀ j u, cs[j]? = some u → xs[o + j]? = some u) : w.rangeAt g o cs := by
  obtain ⟨h1, ⟨rfl, rfl⟩ | ⟨b, cap, cur, rfl, hb, hh, hn, hm, hs, ht⟩⟩ := h
  · simp [Value.ownBlock] at hg
  · simp only [Value.ownBlock, Option.some.injEq] at hg
    subst hg
    intro j u hj
    have := hc j u hj
    rw [← ht, List.getElem?_take] at this
    split at this
    · simp only [World.cell?, hh]; simpa using this
    · cases this

theorem own_there {w : World} {base e size n : Nat} {v : Value} {xs : List Value} {g : Nat} (h : w.ownsRow base e size v n xs) (hg : v.ownBlock = some g) (o m : Nat) (hm : o + m ≤ n * size) : w.there g o m := by
  obtain ⟨h1, ⟨rfl, rfl⟩ | ⟨b, cap, cur, rfl, hb, hh, hn, hcm, hs, ht⟩⟩ := h
  · simp [Value.ownBlock] at hg
  · simp only [Value.ownBlock, Option.some.injEq] at hg
    subst hg
    have h1 : n * size ≤ cap * size := Nat.mul_le_mul_right _ hn
    intro j hj
    have hlt : o + j < cur.size := by omega
    refine ⟨?_, ?_⟩
    · simp [World.cell?, hh, hlt]
    · simp [World.frozen?, hh]

theorem setAt_flat2 (rs : List (Int × Value)) (i : Nat) (x : Int) (u : Value) : setAt (flat2 rs) (i * 2) [.int .u64 x, u] = flat2 (rs.set i (x, u)) := by
  simp only [setAt]
  induction rs generalizing i with
  | nil => simp [flat2]
  | cons r rs ih =>
    cases i with
    | zero => simp [flat2]
    | succ i =>
      have e1 : (i + 1) * 2 = i * 2 + 1 + 1 := by omega
      rw [e1]
      simp only [flat2, List.set_cons_succ]
      rw [ih i]

end Go.Proofs.Ytdcgooleiefljaa

namespace Go.Proofs.Ytdcgooleiefljaa
open Go.RowKit

/-- the slice's elements are xs; they lie in block g, the call's own, from off on -/
structure Queue (w : World) (B e g off cap : Nat) (xs : List Value) : Prop where
  own : B ≤ g
  blk : ∃ cur, w.heap[g]? = some (.cells cur e (0, 0)) ∧ off + cap ≤ cur.size ∧ ∀ j u, xs[j]? = some u → cur[off + j]? = some u
  le : xs.length ≤ cap
  max : cap ≤ maxLen

theorem Queue.lt {w : World} {B e g off cap : Nat} {xs : List Value} (h : Queue w B e g off cap xs) : g < w.heap.size := by
  obtain ⟨cur, h1, -⟩ := h.blk
  exact lt_block h1

theorem Queue.kept {w w' : World} {B e g off cap : Nat} {xs : List Value} (h : Queue w B e g off cap xs) (hb : w'.heap[g]? = w.heap[g]?) : Queue w' B e g off cap xs := by
  obtain ⟨cur, h1, h2⟩ := h.blk
  exact ⟨h.own, ⟨cur, hb.trans h1, h2⟩, h.le, h.max⟩

theorem Queue.cell {w : World} {B e g off cap : Nat} {xs : List Value} (h : Queue w B e g off cap xs) {j : Nat} {u : Value} (hj : xs[j]? = some u) : w.cell? ⟨g, off + j, none⟩ = some u := by
  obtain ⟨cur, h1, h2, h3⟩ := h.blk
  simp only [World.cell?, h1]
  exact h3 j u hj

theorem Queue.one {w : World} {B e g : Nat} {u : Value} (hB : B ≤ g) (h : w.heap[g]? = some (.cells #[u] e (0, 0))) : Queue w B e g 0 1 [u] :=
  ⟨hB, ⟨_, h, by simp, fun j v hj => by cases j with | zero => simpa using hj | succ j => simp at hj⟩, by simp, by simp [maxLen]⟩

theorem Queue.tail {w : World} {B e g off cap : Nat} {x : Value} {xs : List Value} (h : Queue w B e g off cap (x :: xs)) : Queue w B e g (off + 1) (cap - 1) xs := by
  obtain ⟨cur, h1, h2, h3⟩ := h.blk
  have hl := h.le
  have hm := h.max
  simp only [List.length_cons] at hl
  refine ⟨h.own, ⟨cur, h1, by omega, fun j u hj => ?_⟩, by omega, by omega⟩
  have := h3 (j + 1) u (by simpa using hj)
  rwa [show off + (j + 1) = off + 1 + j by omega] at this

theorem Queue.none {w : World} {B e g off cap : Nat} {xs : List Value} (h : Queue w B e g off cap xs) : Queue w B e g off 0 [] := by
  obtain ⟨cur, h1, h2, h3⟩ := h.blk
  exact ⟨h.own, ⟨cur, h1, by omega, fun j u hj => by simp at hj⟩, by simp, by simp⟩

theorem own_agree {w w' : World} {B e s n : Nat} {v : Value} {xs : List Value} (h : w.ownsRow B e s v n xs) (ha : ∀ k, v.ownBlock = some k → w'.heap[k]? = w.heap[k]?) : w'.ownsRow B e s v n xs := by
  obtain ⟨h1, ⟨h2, h3⟩ | ⟨g, cap, cur, hv, hb, hg, hn, hc, hs, ht⟩⟩ := h
  · exact ⟨h1, .inl ⟨h2, h3⟩⟩
  · exact ⟨h1, .inr ⟨g, cap, cur, hv, hb, by rw [ha g (by rw [hv]; rfl)]; exact hg, hn, hc, hs, ht⟩⟩

theorem own_len {w : World} {B e size n m cap : Nat} {p : Option Addr} {xs : List Value} (h : w.ownsRow B e size (.slice p m cap) n xs) : m = n := by
  rcases h.2 with ⟨he, h0⟩ | ⟨g, c, cur, he, -⟩
  · cases he; exact h0.symm
  · cases he; rfl

theorem own_short {w : World} {B e s n : Nat} {v : Value} {xs : List Value} (h : w.ownsRow B e s v n xs) : n ≤ 9223372036854775807 := by
  rcases h.2 with ⟨-, h0⟩ | ⟨g, c, cur, -, -, -, h1, h2, -⟩
  · omega
  · simp only [maxLen] at h2; omega

section
variable {P : Program}

theorem run_queue {t e bytes : Nat} {z : Value} (R : RowTy P t e 1 bytes z) {w : World} {B g off cap : Nat} {xs : List Value} (hq : Queue w B e g off cap xs)
    {g0 : Nat} {u : Value} {te : TypeId} {fr : Nat × Nat} (hg : w.heap[g0]? = some (.cells #[u] te fr)) (h1 : u.oneCell' = true) (h63 : xs.length + 1 ≤ 1000000) (hby : bytes ≤ 1000) (hBw : B ≤ w.heap.size) :
    ∃ g' off' cap' w', (∀ ty, (Builtin.append_ #[t, t] ty #[.slice (some ⟨g, off, none⟩) xs.length cap, .slice (some ⟨g0, 0, none⟩) 1 1]).run P w = .ok (.slice (some ⟨g', off', none⟩) (xs.length + 1) cap') w') ∧
      Queue w' B e g' off' cap' (xs ++ [u]) ∧ w.grownBy w' (some g) ∧ (g' = g ∨ g' = w.heap.size) := by
  obtain ⟨i, hi, hz, hs, hb⟩ := info_parts R.info
  obtain ⟨cur, c1, c2, c3⟩ := hq.blk
  have hle := hq.le
  have hmax := hq.max
  have hsrc : Src P i.size t (.slice (some ⟨g0, 0, none⟩) 1 1) 1 [u] w := Src.ofSlice w R.ty ⟨g0, 0, none⟩ 1 1 [u] (by simp [hs]) (by
    have := World.news_of_block (cs := #[u]) (t := te) (fr := fr) hg
    simpa using this) (by simpa using h1)
  by_cases hroom : xs.length + 1 ≤ cap
  · have hr := fun ty => run_append_room_src (P := P) w t t ty e i R.ty hi g off xs.length cap (.slice (some ⟨g0, 0, none⟩) 1 1) 1 [u] hsrc hroom
      (fun j hj => by
        simp only [List.length_cons, List.length_nil] at hj
        obtain rfl : j = 0 := by omega
        simp only [World.cell?, c1, hs]
        rw [Array.getElem?_eq_getElem (by omega)]; rfl)
      (fun j hj => by simp [World.frozen?, c1])
    refine ⟨g, off, cap, _, hr, ⟨hq.own, ⟨cur.setIfInBounds (off + xs.length * i.size) u, ?_, by simpa using c2, fun j v hj => ?_⟩, by simpa using hroom, hmax⟩, grownBy_setCells g [u] _ w, .inl rfl⟩
    · simp [World.setCells, World.setCell, Array.getElem?_modify, c1]
    · rw [hs, Nat.mul_one, Array.getElem?_setIfInBounds]
      rcases Nat.lt_or_ge j xs.length with hj1 | hj1
      · rw [if_neg (by omega)]
        rw [List.getElem?_append_left hj1] at hj
        exact c3 j v hj
      · have hj2 : j < (xs ++ [u]).length := (List.getElem?_eq_some_iff.1 hj).1
        simp only [List.length_append, List.length_cons, List.length_nil] at hj2
        obtain rfl : j = xs.length := by omega
        rw [if_pos rfl, if_pos (by omega)]
        rw [List.getElem?_append_right (by omega)] at hj
        simpa using hj
  · have hcells : ∀ j v, xs[j]? = some v → w.cell? ((⟨g, off, none⟩ : Addr).add j) = some v := fun j v hj => by rw [Addr.add_lit]; exact hq.cell hj
    have hold : (Builtin.firstCells i.size xs.length (.slice (some ⟨g, off, none⟩) xs.length cap)).run P w.drew = .ok xs.toArray w.drew :=
      run_firstCells_some w.drew i.size xs.length _ _ _ xs (by simp [hs]) (by simpa using hcells)
    have hfit : Builtin.nextslicecap (xs.length + 1) cap * i.bytes ≤ 281474976710656 := growslice_fits (by omega) (by
      rw [hb]
      calc (xs.length + 1) * bytes ≤ 1000000 * 1000 := Nat.mul_le_mul h63 hby
        _ ≤ _ := by omega)
    have hr := fun ty => run_append_grow_src (P := P) w t t ty e i z R.ty hi hz (some ⟨g, off, none⟩) xs.length cap xs hold (.slice (some ⟨g0, 0, none⟩) 1 1) 1 [u] hsrc (by omega) (by omega) hfit
    have hge := grownCap_ge w (xs.length + 1) cap e
    have hcm : grownCap w (xs.length + 1) cap e ≤ maxLen := grownCap_le_maxLen w (xs.length + 1) cap e (by simp [maxLen]; omega)
    refine ⟨w.heap.size, 0, _, _, hr, ⟨hBw, ⟨_, heap_alloc_new w.drew _, ?_, fun j v hj => ?_⟩, by simpa using hge, hcm⟩, ⟨rfl, rfl, rfl, by simp, fun k hk _ => heap_alloc_old w.drew _ hk⟩, .inr rfl⟩
    · have hzs := R.zs
      simp only [Array.size_append, List.size_toArray, List.length_append, List.length_cons, List.length_nil, size_zeroCells, hzs]
      omega
    · rw [Nat.zero_add]
      have hj2 : j < (xs ++ [u]).length := (List.getElem?_eq_some_iff.1 hj).1
      rw [Array.getElem?_append_left (by simpa using hj2)]
      simpa using hj
end

end Go.Proofs.Ytdcgooleiefljaa
