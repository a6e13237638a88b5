/-
  graph: New.
  Appends to a row of the call's own, as run equations: of a slice that is read, of an element that lies in a block of its own.
  A row of the call's own is written in its midst: cells, structs.
-/
import Derived.Test.YtdbeekdnehojnaaJ22
import Derived.Test.YtdbeekdnehojnaaJ03
import Derived.Laws.OwnMore
import Derived.Maps.AppendAt
import Derived.Test.YtdbeekdnehojnaaJ05
import Derived.Deep.MidRow
import Derived.Deep.Upon
namespace Go.Proofs.Ytdbeekdnehojnaa
open Go.RowKit Go.ChangeMaps

/-- nodes, each once, in the order of their first coming -/
def addAll (l : List Int) (xs : List Int) : List Int := xs.foldl (fun l x => if x ∈ l then l else l ++ [x]) l

theorem hasB_mem (Q : Gr) (k : Int) : hasB Q k = decide (k ∈ Q.map (·.1)) := by
  rw [Bool.eq_iff_iff]
  simp only [hasB, List.any_eq_true, decide_eq_true_eq, List.mem_map]

theorem addAll_snoc (l xs : List Int) (x : Int) : addAll l (xs ++ [x]) = if x ∈ addAll l xs then addAll l xs else addAll l xs ++ [x] := by
  unfold addAll
  rw [List.foldl_append]
  rfl

/-- a graph of the call's own, whose nodes have no edges -/
structure NewGr (B : Nat) (w : World) (p m : Nat) (Q : Gr) (ks : List Int) : Prop where
  at_ : GrAt w p m Q
  nodes : Q.map (·.1) = ks
  bare : ∀ q ∈ Q, q.2.2 = [] ∧ B ≤ q.2.1
  base : B ≤ p ∧ B ≤ m

set_option maxRecDepth 100000 in
set_option maxHeartbeats 4000000 in
theorem gNew (w : World) (xs : List Int) (v : Value) (hN : Nums w .u64 v xs) (hb : LiesIn (fun b => b < w.heap.size) v xs.length) (hn : xs.length ≤ 1000000) :
    Calls Try.prog 10 #[v] w fun e w' => ∃ p m Q, e = .returned (.pointer (some ⟨p, 0, none⟩)) ∧ NewGr w.heap.size w' p m Q (addAll [] xs) ∧ Below w.heap.size w w' := by
  have hmm := @run_makeMap Try.prog
  obtain ⟨sp, cap, rfl, hcap, hbig, -, hc⟩ := hN.slice
  have hl : xs.length ≤ 9223372036854775807 := by omega
  clear hcap hbig hN
  go_enter Try.func10, Try.ntmps10
  go_wp2_with fail
  go_loopg [11] xs.length (fun q i wr => ∃ (k : Nat) (Q : Gr), q = xs.length - k ∧ k ≤ xs.length ∧ i = .int .i64 k ∧ NewGr w.heap.size wr (w.heap.size + 1) w.heap.size Q (addAll [] (xs.take k)) ∧ Below w.heap.size w wr)
  case atStart =>
    have hB : Below w.heap.size w ((w.alloc (.map #[] 0)).alloc (.cells #[.map (some w.heap.size)] 57)) := ((Below.refl _ w).alloc (Nat.le_refl _) _).alloc (by simp) _
    refine ⟨0, [], by simp, by omega, rfl, ⟨⟨?_, ?_, by simp, by simp⟩, rfl, by simp, by omega⟩, hB⟩
    · have := World.alloc_heap_new (w.alloc (.map #[] 0)) (.cells #[.map (some w.heap.size)] 57)
      rwa [World.size_alloc] at this
    · exact (MapAt.made w).kept (heap_alloc_old _ _ (by simp))
  case round =>
    obtain ⟨k, Q, rfl, hk, rfl, hG, hB⟩ := hrel
    have HG := Lib.hid hG
    have HB := Lib.hid hB
    have HC := Lib.hid hc
    clear hG hB hc
    by_cases hlt : k < xs.length
    · obtain ⟨b, off, rfl, hcell⟩ := HC.out k hlt
      have hbl : b < w.heap.size := hb (by omega) b rfl
      have hc1 : wr.cell? ⟨b, off + k, none⟩ = some (.int .u64 xs[k]) := (HB.out.cell (p := ⟨b, off + k, none⟩) hbl).trans hcell
      have cA := gAdd wr (w.heap.size + 1) w.heap.size Q xs[k] HG.out.at_
      have ht : xs.take (k + 1) = xs.take k ++ [xs[k]] := by rw [List.take_add_one, List.getElem?_eq_getElem hlt]; rfl
      clear hcell
      go_wp2_with (go_at_call 18; refine cA.mono ?_; rintro e w' (⟨hh, rfl, rfl⟩ | ⟨hh, rfl, hA, hM⟩))
      · have HN : NewGr w.heap.size w' (w.heap.size + 1) w.heap.size Q (addAll [] (xs.take (k + 1))) := by
          rw [ht, addAll_snoc, if_pos]
          · exact HG.out
          · rw [hasB_mem, HG.out.nodes] at hh; simpa using hh
        go_roundg (xs.length - (k + 1))
        case measure => omega
        case rel => exact ⟨k + 1, Q, rfl, by omega, by go_num, HN, HB.out⟩
      · have hs := HB.out.size
        have HN : NewGr w.heap.size w' (w.heap.size + 1) w.heap.size (Q ++ [(xs[k], wr.heap.size, [])]) (addAll [] (xs.take (k + 1))) := by
          rw [ht, addAll_snoc, if_neg]
          · refine ⟨hA, by rw [List.map_append, HG.out.nodes]; rfl, fun q hq => ?_, HG.out.base⟩
            rcases List.mem_append.1 hq with hq | hq
            · exact HG.out.bare q hq
            · rw [List.mem_singleton.1 hq]; exact ⟨rfl, hs⟩
          · rw [hasB_mem, HG.out.nodes] at hh; simpa using hh
        have hB2 := HB.out.trans (hM.below hs (fun k e => by omega))
        go_roundg (xs.length - (k + 1))
        case measure => omega
        case rel => exact ⟨k + 1, _, rfl, by omega, by go_num, HN, hB2⟩
    · go_wp2_with fail
      go_ret
      exact ⟨_, _, Q, rfl, by have := HG.out; rwa [List.take_of_length_le (by omega)] at this, HB.out⟩

end Go.Proofs.Ytdbeekdnehojnaa

namespace Go.Proofs.Ytdbeekdnehojnaa
open Go.RowKit

/-- the cells of a slice that is read -/
structure SrcAt (w : World) (p : Option Addr) (m c size : Nat) (news : List Value) : Prop where
  len : news.length = m * size
  nil : p = none → m = 0 ∧ c = 0
  cells : ∀ a, p = some a → ∀ j u, news[j]? = some u → w.cell? (a.add j) = some u

theorem SrcAt.agree {w w' : World} {p : Option Addr} {m c size : Nat} {news : List Value} (h : SrcAt w p m c size news) (hk : ∀ (a : Addr) (u : Value), w.cell? a = some u → w'.cell? a = some u) : SrcAt w' p m c size news :=
  ⟨h.len, h.nil, fun a ha j u hj => hk _ _ (h.cells a ha j u hj)⟩

theorem SrcAt.below {w w' : World} {p : Option Addr} {m c size : Nat} {news : List Value} (h : SrcAt w p m c size news) (hb : Below w.heap.size w w') : SrcAt w' p m c size news :=
  h.agree fun _ _ => below_cells hb

theorem SrcAt.of_own {w : World} {base e size n m c : Nat} {p : Option Addr} {xs : List Value} (h : w.ownsRow base e size (.slice p m c) n xs) : SrcAt w p n c size xs := by
  obtain ⟨h1, ⟨h2, h3⟩ | ⟨g, cap, cur, hv, hb, hg, hn, hc, hs, ht⟩⟩ := h
  · obtain ⟨rfl, rfl, rfl⟩ := Value.slice.inj h2
    exact ⟨h1, fun _ => ⟨h3, rfl⟩, fun a ha => by cases ha⟩
  · obtain ⟨rfl, rfl, rfl⟩ := Value.slice.inj hv
    refine ⟨h1, (by simp), fun a ha j u hj => ?_⟩
    obtain rfl := Option.some.inj ha
    rw [← ht, List.getElem?_take] at hj
    split at hj
    · rw [Addr.add_lit, Nat.zero_add]
      simp only [World.cell?, hg]; simpa using hj
    · cases hj

theorem SrcAt.of_nums {w : World} {k : IntKind} {p : Option Addr} {m c : Nat} {xs : List Int} (h : Nums w k (.slice p m c) xs) : SrcAt w p xs.length c 1 (xs.map (Value.int k)) := by
  obtain ⟨p', cap, hv, h1, h2, h3, h4⟩ := h.slice
  obtain ⟨rfl, rfl, rfl⟩ := Value.slice.inj hv
  refine ⟨by simp, fun hp => ?_, fun a ha j u hj => ?_⟩
  · have := h3 hp; exact ⟨by omega, this⟩
  · rw [List.getElem?_map, Option.map_eq_some_iff] at hj
    obtain ⟨x, hx, rfl⟩ := hj
    obtain ⟨hj', rfl⟩ := List.getElem?_eq_some_iff.1 hx
    obtain ⟨b, off, hp, hc⟩ := h4 j hj'
    rw [ha] at hp
    obtain rfl := Option.some.inj hp
    rw [Addr.add_lit]
    exact hc

section
variable {P : Program}

theorem run_app {t e size bytes : Nat} {z : Value} (R : RowTy P t e size bytes z) {w : World} {base : Nat} {v : Value} {n : Nat} {xs : List Value} (hown : w.ownsRow base e size v n xs) (hbase : base ≤ w.heap.size)
    {p : Option Addr} {m c : Nat} {news : List Value} (hs : SrcAt w p m c size news) (h1 : ∀ u ∈ news, u.oneCell' = true) (h63 : n + m ≤ maxLen) (hbytes : (n + m) * bytes ≤ 140737488355328) :
    ∃ q k c' w', (∀ ty, (Builtin.append_ #[t, t] ty #[v, .slice p m c]).run P w = .ok (.slice q k c') w') ∧ w'.ownsRow base e size (.slice q k c') (n + m) (xs ++ news) ∧ w.grownBy w' v.ownBlock ∧
      ((Value.slice q k c').ownBlock = v.ownBlock ∨ (Value.slice q k c').ownBlock = some w.heap.size) := by
  obtain ⟨i, hi, hz, hsz, hb⟩ := info_parts R.info
  cases p with
  | none =>
    obtain ⟨rfl, rfl⟩ := hs.nil rfl
    have hn : news = [] := List.eq_nil_of_length_eq_zero (by rw [hs.len]; simp)
    subst hn
    obtain ⟨q, k, c', rfl⟩ := own_form hown
    exact ⟨q, k, c', w, fun ty => run_append_owned_none w base t ty e i size R.ty hi _ n xs hown, by simpa using hown, World.grownBy.refl w _, .inl rfl⟩
  | some a =>
    obtain ⟨v', w', hr, h2, h3, _, h5⟩ := run_append_own_at (P := P) w base t 0 e i z size bytes R.ty hi hz hsz hb R.zs R.pos v n xs hown a m c news hs.len (hs.cells a rfl) h1 h63 hbytes hbase
    obtain ⟨q, k, c', rfl⟩ := own_form h2
    exact ⟨q, k, c', w', fun ty => hr, h2, h3, h5⟩

/-- the element's cells lie in block g0 -/
theorem run_push_at {t e size bytes : Nat} {z : Value} (R : RowTy P t e size bytes z) {w : World} {base : Nat} {v : Value} {n : Nat} {xs : List Value} (hown : w.ownsRow base e size v n xs) (hbase : base ≤ w.heap.size)
    {g0 : Nat} {cs : Array Value} {te : TypeId} {fr : Nat × Nat} (hg : w.heap[g0]? = some (.cells cs te fr)) (hcs : cs.size = size) (h1 : ∀ u ∈ cs.toList, u.oneCell' = true) (h63 : n + 1 ≤ maxLen) (hbytes : (n + 1) * bytes ≤ 140737488355328) :
    ∃ g cap w', (∀ ty, (Builtin.append_ #[t, t] ty #[v, .slice (some ⟨g0, 0, none⟩) 1 1]).run P w = .ok (.slice (some ⟨g, 0, none⟩) (n + 1) cap) w') ∧
      w'.ownsRow base e size (.slice (some ⟨g, 0, none⟩) (n + 1) cap) (n + 1) (xs ++ cs.toList) ∧ w.grownBy w' v.ownBlock ∧ (v.ownBlock = some g ∨ g = w.heap.size) ∧ g < w'.heap.size := by
  obtain ⟨i, hi, hz, hs, hb⟩ := info_parts R.info
  obtain ⟨g, cap, w', hr, h2, h3, h4, h5⟩ := run_append_lies (P := P) w t 0 base e i z size bytes R.ty hi hz hs hb R.zs R.pos v n xs hown ⟨g0, 0, none⟩ 1 1 cs.toList (by simp [hcs])
    (World.news_of_block (cs := cs) (t := te) (fr := fr) hg) h1 (by omega) h63 hbytes hbase w.heap.size rfl
  exact ⟨g, cap, w', fun ty => hr, h2, h3, h4, h5⟩

end

theorem own_empty (w : World) (base e size : Nat) (hb : base ≤ w.heap.size) : (w.alloc (.cells #[] e)).ownsRow base e size (.slice (some ⟨w.heap.size, 0, none⟩) 0 0) 0 [] :=
  ⟨by simp, .inr ⟨_, _, #[], rfl, hb, heap_alloc_new _ _, Nat.le_refl _, by simp [maxLen], by simp, by simp⟩⟩

theorem exists_list2 {α : Type} (n : Nat) {p : Nat → α → Prop} (h : ∀ i, i < n → ∃ x, p i x) : ∃ l : List α, l.length = n ∧ ∀ i (hi : i < l.length), p i l[i] := by
  induction n with
  | zero => exact ⟨[], rfl, fun i hi => absurd hi (by simp)⟩
  | succ n ih =>
    obtain ⟨l, hl, hp⟩ := ih fun i hi => h i (by omega)
    obtain ⟨x, hx⟩ := h n (by omega)
    refine ⟨l ++ [x], by simp [hl], fun i hi => ?_⟩
    simp only [List.length_append, List.length_cons, List.length_nil] at hi
    rcases Nat.lt_or_ge i l.length with h1 | h1
    · rw [List.getElem_append_left h1]; exact hp i h1
    · have e : i = n := by omega
      subst e
      rw [List.getElem_append_right (by omega)]
      simp [hl, hx]

end Go.Proofs.Ytdbeekdnehojnaa

namespace Go.Proofs.Ytdbeekdnehojnaa
open Go.RowKit

/-- in a region that draws its order: two may come up -/
theorem spB {P : Program} {ops : Array Oper} {Q : Exit → Act → World → Prop} {md : Region.Mode} {S : World → Prop} (i j : Nat) {oi oj : Oper} {fuel : Nat} {listed : Array Bool} {a : Act} {w : World} (hi : ops.toList[i]? = some oi) (hj : ops.toList[j]? = some oj)
    (hr : Region.ready md ops listed = [i, j]) (hwi : Region.wanted oi (yielded ops a.tmps) = true) (hwj : Region.wanted oj (yielded ops a.tmps) = true)
    (h : ∀ K' : Act → World → Prop, Shut (∀ a w, S w → (S w → wpAnyH P md ops Q S fuel (listed.setIfInBounds i true) a w) → K' a w) → oi.wp P a w K' Q)
    (h' : ∀ K' : Act → World → Prop, Shut (∀ a w, S w → (S w → wpAnyH P md ops Q S fuel (listed.setIfInBounds j true) a w) → K' a w) → oj.wp P a w K' Q) : wpAnyH P md ops Q S (fuel + 1) listed a w := by
  refine wpAnyH_ready hr (by simp) ?_
  refine AllReadyH.cons (by rw [← hi, Array.getElem?_toList]) (fun K' hK => ?_) (AllReadyH.cons (by rw [← hj, Array.getElem?_toList]) (fun K' hK => ?_) AllReadyH.nil)
  · rw [if_pos hwi]; exact h K' hK
  · rw [if_pos hwj]; exact h' K' hK

/-- the cells from o on become these -/
def setAt (xs : List Value) (o : Nat) : List Value → List Value
  | [] => xs
  | v :: r => setAt (xs.set o v) (o + 1) r

theorem own_setCell {w : World} {base e size n : Nat} {v : Value} {xs : List Value} {g o : Nat} (h : w.ownsRow base e size v n xs) (hg : v.ownBlock = some g) (ho : o < n * size) (u : Value) :
    (w.setCell ⟨g, o, none⟩ u).ownsRow base e size v n (xs.set o u) := by
  obtain ⟨h1, ⟨rfl, rfl⟩ | ⟨b, cap, cur, rfl, hb, hh, hn, hc, hs, ht⟩⟩ := h
  · simp [Value.ownBlock] at hg
  · simp only [Value.ownBlock, Option.some.injEq] at hg
    subst hg
    refine ⟨by simpa using h1, .inr ⟨b, cap, cur.setIfInBounds o u, rfl, hb, ?_, hn, hc, by simpa using hs, ?_⟩⟩
    · simp [World.setCell, Array.getElem?_modify, hh]
    · rw [← ht]
      simp [List.take_set]

theorem own_setCells {base e size n : Nat} {v : Value} {g : Nat} (hg : v.ownBlock = some g) : ∀ (vs : List Value) (o : Nat) (w : World) (xs : List Value), w.ownsRow base e size v n xs → o + vs.length ≤ n * size →
    (w.setCells g o vs).ownsRow base e size v n (setAt xs o vs)
  | [], _, _, _, h, _ => h
  | u :: r, o, w, xs, h, ho => by
    rw [World.setCells, setAt]
    simp only [List.length_cons] at ho
    exact own_setCells hg r (o + 1) _ _ (own_setCell h hg (by omega) u) (by omega)

theorem heap_size_setCells (g : Nat) : ∀ (vs : List Value) (o : Nat) (w : World), (w.setCells g o vs).heap.size = w.heap.size
  | [], _, _ => rfl
  | u :: r, o, w => by rw [World.setCells, heap_size_setCells g r]; simp [World.setCell]

theorem grownBy_setCells (g : Nat) : ∀ (vs : List Value) (o : Nat) (w : World), w.grownBy (w.setCells g o vs) (some g)
  | [], _, w => World.grownBy.refl w _
  | u :: r, o, w => by
    rw [World.setCells]
    obtain ⟨a1, a2, a3, a4, a5⟩ := grownBy_setCells g r (o + 1) (w.setCell ⟨g, o, none⟩ u)
    refine ⟨a1, a2, a3, ?_, fun k hk hne => ?_⟩
    · rw [heap_size_setCells]; simp [World.setCell]
    · rw [a5 k (by simpa [World.setCell] using hk) hne]
      exact Below.heap_setCell _ _ _ _ (fun e => hne (by rw [e]))

theorem own_rangeAt {w : World} {base e size n : Nat} {v : Value} {xs : List Value} {g : Nat} (h : w.ownsRow base e size v n xs) (hg : v.ownBlock = some g) (o : Nat) (cs : List Value) (hc : ∀ j u, cs[j]? = some u → xs[o + j]? = some u) : w.rangeAt g o cs := by
  obtain ⟨h1, ⟨rfl, rfl⟩ | ⟨b, cap, cur, rfl, hb, hh, hn, hm, hs, ht⟩⟩ := h
  · simp [Value.ownBlock] at hg
  · simp only [Value.ownBlock, Option.some.injEq] at hg
    subst hg
    intro j u hj
    have := hc j u hj
    rw [← ht, List.getElem?_take] at this
    split at this
    · simp only [World.cell?, hh]; simpa using this
    · cases this

theorem own_there {w : World} {base e size n : Nat} {v : Value} {xs : List Value} {g : Nat} (h : w.ownsRow base e size v n xs) (hg : v.ownBlock = some g) (o m : Nat) (hm : o + m ≤ n * size) : w.there g o m := by
  obtain ⟨h1, ⟨rfl, rfl⟩ | ⟨b, cap, cur, rfl, hb, hh, hn, hcm, hs, ht⟩⟩ := h
  · simp [Value.ownBlock] at hg
  · simp only [Value.ownBlock, Option.some.injEq] at hg
    subst hg
    have h1 : n * size ≤ cap * size := Nat.mul_le_mul_right _ hn
    intro j hj
    have hlt : o + j < cur.size := by omega
    refine ⟨?_, ?_⟩
    · simp [World.cell?, hh, hlt]
    · simp [World.frozen?, hh]

theorem setAt_flat2 (rs : List (Int × Value)) (i : Nat) (x : Int) (u : Value) : setAt (flat2 rs) (i * 2) [.int .u64 x, u] = flat2 (rs.set i (x, u)) := by
  simp only [setAt]
  induction rs generalizing i with
  | nil => simp [flat2]
  | cons r rs ih =>
    cases i with
    | zero => simp [flat2]
    | succ i =>
      have e1 : (i + 1) * 2 = i * 2 + 1 + 1 := by omega
      rw [e1]
      simp only [flat2, List.set_cons_succ]
      rw [ih i]

end Go.Proofs.Ytdbeekdnehojnaa
