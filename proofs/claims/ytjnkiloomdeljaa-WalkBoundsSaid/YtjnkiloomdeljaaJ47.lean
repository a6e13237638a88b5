/-
  best's law: BestMerges: one list more.
  best's law: BestMerges: the hits of one list get their vectors, and go to the document's list.
  best's law: BestMerges, walked.
  numbers are cut: the first few behind a new block.
  walk's laws: WalkRuns.
  walk's laws: WalkWhole.
  walk's laws: WalkEnds.
  walk's laws: WalkBounds.
  An argument that is a slice of pairs of numbers.
-/
import Derived.Test.YtjnkiloomdeljaaJ46
import Derived.Test.YtjnkiloomdeljaaJ01
import Derived.Test.YtjnkiloomdeljaaJ17
import Derived.Test.YtjnkiloomdeljaaJ13
import Derived.Test.YtjnkiloomdeljaaJ14
import Derived.Test.YtjnkiloomdeljaaJ45
import Derived.OpenShut
namespace Go.Proofs.Ytjnkiloomdeljaa
open Go.RowKit

theorem MState.put {wo w3 w5 w7 : World} {B c : Nat} {vl vb vl5 v7 : Value} {ps : List Value} {E FX FX' Ep : Nat → Prop} {ls : List (List Hz)} {l : List Hz} {q : Option Addr} {qc g5 n : Nat} (m : MState wo B c vl vb ps E FX ls) (hm : Mod (fun k => k = c) wo w3)
    (hp : HitsF w3 Ep (.slice q n qc) l) (hEp : ∀ k, Ep k → wo.heap.size ≤ k ∧ k < w3.heap.size) (hr : RefL w3 FX' c 1048576 (addsZ 1048576 [] (ls.flatten ++ l)).2) (hF : ∀ k, FX' k → (FX k ∨ wo.heap.size ≤ k) ∧ k < w3.heap.size)
    (h12 : l.length ≤ 12) (hlen : ls.length < 6) (hv : ∀ h ∈ l, h.vec.length ≤ 1000000) (hB : B ≤ wo.heap.size)
    (ho5 : w5.ownsRow B 22 1 vl5 (ls.length + 1) (ps ++ [.slice q n qc])) (hv5 : vl5.ownBlock = some g5) (hg5 : (w3.alloc (.cells #[.slice q n qc] 22)).grownBy w5 vl.ownBlock) (hat : vl.ownBlock = some g5 ∨ g5 = w3.heap.size + 1)
    (ho7 : w7.ownsRow w5.heap.size 22 1 v7 (1 + ls.length) ([.slice q n qc] ++ ps.reverse)) (hg7 : (w5.alloc (.cells #[.slice q n qc] 22)).grownBy w7 (some w5.heap.size)) :
    MState w7 B c vl5 v7 (ps ++ [.slice q n qc]) (fun k => E k ∨ Ep k) FX' (ls ++ [l]) := by
  obtain rfl : n = l.length := by
    obtain ⟨_, _, e, -⟩ := hp
    exact (Value.slice.inj e).2.1
  have hs3 := hm.size
  have hs5 := hg5.size
  have hs7 := hg7.size
  simp at hs5 hs7
  have hcB := m.cB
  obtain ⟨nl, -, nd⟩ := m.next hm
  have h35 : Mod (fun k => vl.ownBlock = some k) w3 w5 := (Mod.of_below ((Below.refl w3.heap.size w3).alloc (Nat.le_refl _) _)).grown hg5 fun k hk => .inl hk
  have h57 : Below w5.heap.size w5 w7 := ((Below.refl w5.heap.size w5).alloc (Nat.le_refl _) _).grown hg7 (by simp) fun b hb => by cases hb; exact Nat.le_refl _
  have h37 := h35.andBelow h57
  have hlt5 : g5 < w5.heap.size := (ho5.lt g5 hv5).2
  have hvl : ∀ b, vl.ownBlock = some b → b < wo.heap.size := fun b hb => (m.ol.lt b hb).2
  refine ⟨by simpa using own_below ho5 h57, ?_, ?_, ?_, ?_, ?_, ?_, ?_, ?_, ?_, ?_, hcB, by simp; omega, ?_, ?_⟩
  · rw [List.reverse_append, List.length_append]
    have := own_mono ho7 (show B ≤ w5.heap.size by omega)
    simpa [Nat.add_comm] using this
  · intro b hb
    rw [hv5] at hb
    obtain rfl := Option.some.inj hb
    intro h
    have := (ho7.lt g5 h).1
    omega
  · intro i hi
    rw [List.length_append, List.length_singleton] at hi
    have hpl : ps.length = ls.length := by have := m.ol.1; omega
    by_cases e : i = ls.length
    · subst e
      have el : (ls ++ [l])[ls.length] = l := by simp
      refine ⟨q, qc, by rw [el, List.getElem?_append_right (by omega), hpl]; simp, ?_⟩
      rw [el]
      refine (hp.agree (Agree.of_mod h37 (fun k hk => (hEp k hk).2) fun k hk hk' => ?_)).mono fun _ => .inr
      have := hvl k hk'
      have := (hEp k hk).1
      omega
    · have hi' : i < ls.length := by omega
      obtain ⟨q', qc', h1, h2⟩ := nd i hi'
      refine ⟨q', qc', ?_, ?_⟩
      · rw [List.getElem_append_left hi', List.getElem?_append_left (by omega)]; exact h1
      · simp only [List.getElem_append_left hi']
        refine (h2.agree (Agree.of_mod h37 (fun k hk => by have := m.ehi k hk; omega) fun k hk hk' => (m.el k hk').1 hk)).mono fun _ => .inl
  · intro k hk
    rcases hk with hk | hk
    · exact m.elo k hk
    · have := (hEp k hk).1; omega
  · intro k hk
    rcases hk with hk | hk
    · have := m.ehi k hk; omega
    · have := (hEp k hk).2; omega
  · intro b hb
    rw [hv5] at hb
    obtain rfl := Option.some.inj hb
    rcases hat with h | h
    · obtain ⟨h1, h2⟩ := m.el g5 h
      have := hvl g5 h
      refine ⟨fun hk => ?_, fun hk => ?_⟩
      · rcases hk with hk | hk
        · exact h1 hk
        · have := (hEp _ hk).1; omega
      · rcases (hF _ hk).1 with hk | hk
        · exact h2 hk
        · omega
    · refine ⟨fun hk => ?_, fun hk => by have := (hF _ hk).2; omega⟩
      rcases hk with hk | hk
      · have := m.ehi _ hk; omega
      · have := (hEp _ hk).2; omega
  · intro b hb
    have := (ho7.lt b hb).1
    refine ⟨fun hk => ?_, fun hk => by have := (hF _ hk).2; omega⟩
    rcases hk with hk | hk
    · have := m.ehi _ hk; omega
    · have := (hEp _ hk).2; omega
  · rw [List.flatten_append]
    simp only [List.flatten_cons, List.flatten_nil, List.append_nil]
    refine hr.agree (Agree.of_mod h37 (fun k hk => (hF k hk).2) fun k hk hk' => ?_) h37.size
    rcases (hF k hk).1 with h | h
    · exact (m.el k hk').2 h
    · have := hvl k hk'; omega
  · intro k hk
    have := (hF k hk).2
    omega
  · intro k hk
    rcases (hF k hk).1 with h | h
    · exact m.flo k h
    · omega
  · intro ms hms
    rcases List.mem_append.1 hms with h | h
    · exact m.l12 ms h
    · rw [List.mem_singleton.1 h]; exact h12
  · intro ms hms
    rcases List.mem_append.1 hms with h | h
    · exact m.vec ms h
    · rw [List.mem_singleton.1 h]; exact hv

theorem MState.ones {w : World} {B c : Nat} {vl vb : Value} {ps : List Value} {E FX : Nat → Prop} {ls : List (List Hz)} (m : MState w B c vl vb ps E FX ls) : ∀ u ∈ ps, u.oneCell' = true := by
  intro u hu
  have hpl : ps.length = ls.length := by have := m.ol.1; omega
  obtain ⟨i, hi, rfl⟩ := List.mem_iff_getElem.1 hu
  obtain ⟨q, qc, h1, -⟩ := m.dat i (by omega)
  rw [List.getElem?_eq_getElem hi] at h1
  rw [Option.some.inj h1]
  rfl

/-- the lists, as merge reads them -/
theorem MState.lists {w : World} {B c : Nat} {vl vb : Value} {ps : List Value} {E FX : Nat → Prop} {ls : List (List Hz)} (m : MState w B c vl vb ps E FX ls) :
    ListsF w (fun k => B ≤ k ∧ k < w.heap.size) vl ls ∧ ListsF w (fun k => B ≤ k ∧ k < w.heap.size) vb ls.reverse := by
  have hpl : ps.length = ls.length := by have := m.ol.1; omega
  have one : ∀ (v : Value) (qs : List Value) (ms : List (List Hz)), qs.length = ms.length → w.ownsRow B 22 1 v ms.length qs → (∀ i (h : i < ms.length), ∃ q qc, qs[i]? = some (.slice q ms[i].length qc) ∧ HitsF w E (.slice q ms[i].length qc) ms[i]) → ListsF w (fun k => B ≤ k ∧ k < w.heap.size) v ms := by
    intro v qs ms hq h hd
    obtain ⟨h1, ⟨h2, h3⟩ | ⟨g, cap, cur, hvv, hb, hg, hn, hcm, hs, ht⟩⟩ := h
    · have : ms = [] := List.eq_nil_of_length_eq_zero h3
      subst this
      rw [h2]; exact ⟨none, 0, rfl, by simp, by simp, by simp, fun i hi => absurd hi (by simp)⟩
    · refine ⟨_, cap, hvv, hn, by simpa [maxLen] using hcm, by simp, fun i hi => ?_⟩
      obtain ⟨q, qc, e, hh⟩ := hd i hi
      refine ⟨g, 0, _, rfl, ⟨hb, lt_block hg⟩, ?_, hh.mono fun k hk => ⟨m.elo k hk, m.ehi k hk⟩⟩
      rw [← ht, List.getElem?_take] at e
      split at e
      · simp only [World.cell?, hg]; simpa using e
      · cases e
  refine ⟨one vl ps ls hpl m.ol m.dat, one vb ps.reverse ls.reverse (by simp [hpl]) (by simpa using m.ob) fun i hi => ?_⟩
  rw [List.length_reverse] at hi
  obtain ⟨q, qc, h1, h2⟩ := m.dat (ls.length - 1 - i) (by omega)
  refine ⟨q, qc, ?_, ?_⟩
  · rw [List.getElem?_reverse (by omega), hpl, List.getElem_reverse]; exact h1
  · rw [List.getElem_reverse]; exact h2

end Go.Proofs.Ytjnkiloomdeljaa

namespace Go.Proofs.Ytjnkiloomdeljaa
open Go.RowKit

def Inn (wo w : World) (v : Value) (k : Nat) : Prop := (wo.heap.size ≤ k ∧ k < w.heap.size) ∧ v.ownBlock ≠ some k

structure InnerS (wo w : World) (c : Nat) (v : Value) (rs : List Hv) (FX : Nat → Prop) (prev l : List Hz) (i j : Nat) : Prop where
  ow : w.ownsRow wo.heap.size 43 3 v l.length (flat3 rs)
  rw : Rows3 w (Inn wo w v) rs (mixZ l i)
  rl : RefL w (fun k => FX k ∨ Inn wo w v k) c 1048576 (addsZ 1048576 [] (prev ++ (l.take j).map detZ)).2
  md : Mod (fun k => k = c) wo w
  fx : ∀ k, FX k → k < wo.heap.size
  fc : c < wo.heap.size

theorem InnerS.start {wo w : World} {c : Nat} {v : Value} {rs : List Hv} {FX : Nat → Prop} {prev l : List Hz} (ho : w.ownsRow wo.heap.size 43 3 v rs.length (flat3 rs)) (hh : Held3 w wo.heap.size 21 rs l) (hb : Below wo.heap.size wo w)
    (hr : RefL wo FX c 1048576 (addsZ 1048576 [] prev).2) (hF : ∀ k, FX k → k < wo.heap.size) (hc : c < wo.heap.size) : InnerS wo w c v rs FX prev l 0 0 := by
  refine ⟨by rw [← hh.len]; exact ho, ?_, ?_, Mod.of_below hb, hF, hc⟩
  · rw [mixZ_zero]
    refine ⟨hh.len, fun i h1 h2 => ?_⟩
    obtain ⟨⟨a, b⟩, c⟩ := hh.own i h1 h2
    refine ⟨a, b, Nums.of_own c, fun _ k hk => ⟨c.lt k hk, fun e => ?_⟩⟩
    rcases own_apart c ho (by decide) with h | h
    · rw [h] at hk; cases hk
    · exact h (by rw [hk, e])
  · simp only [List.take_zero, List.map_nil, List.append_nil]
    exact (hr.below hb).mono fun _ => .inl

theorem InnerS.below {wo w w' : World} {c : Nat} {v : Value} {rs : List Hv} {FX : Nat → Prop} {prev l : List Hz} {i j : Nat} (m : InnerS wo w c v rs FX prev l i j) (hb : Below w.heap.size w w') : InnerS wo w' c v rs FX prev l i j := by
  have hs := hb.size
  have inn : ∀ k, Inn wo w v k → Inn wo w' v k := fun k hk => ⟨⟨hk.1.1, by have := hk.1.2; omega⟩, hk.2⟩
  exact ⟨own_below m.ow hb, (m.rw.below hb).mono inn, (m.rl.below hb).mono fun k hk => hk.imp_right (inn k), m.md.andBelow hb, m.fx, m.fc⟩

theorem InnerS.write {wo w : World} {c g cap : Nat} {rs : List Hv} {FX : Nat → Prop} {prev l : List Hz} {j : Nat} (m : InnerS wo w c (.slice (some ⟨g, 0, none⟩) l.length cap) rs FX prev l j j) (hj : j < l.length) :
    InnerS wo ((w.alloc (.cells #[.int .i32 (l[j].id % 7), .int .i32 (l[j].dist % 7)] 21)).setCell ⟨g, j * 3 + 1 + 1, none⟩ (.slice (some ⟨w.heap.size, 0, none⟩) 2 2)) c (.slice (some ⟨g, 0, none⟩) l.length cap) (rs.set j ⟨l[j].id, l[j].dist, .slice (some ⟨w.heap.size, 0, none⟩) 2 2⟩) FX prev l (j + 1) j := by
  have hml := mixZ_length l j
  have hlen := m.rw.len
  have hjr : j < rs.length := by omega
  obtain ⟨e1, e2, -⟩ := m.rw.each j hjr (by omega)
  rw [mixZ_at l j hj] at e1 e2
  have hgw := m.ow.lt g rfl
  have M := m.below ((Below.refl w.heap.size w).alloc (Nat.le_refl _) (.cells #[.int .i32 (l[j].id % 7), .int .i32 (l[j].dist % 7)] 21))
  have hsz : ((w.alloc (.cells #[.int .i32 (l[j].id % 7), .int .i32 (l[j].dist % 7)] 21)).setCell ⟨g, j * 3 + 1 + 1, none⟩ (.slice (some ⟨w.heap.size, 0, none⟩) 2 2)).heap.size = w.heap.size + 1 := by simp [World.setCell]
  have hsz1 : (w.alloc (.cells #[.int .i32 (l[j].id % 7), .int .i32 (l[j].dist % 7)] 21)).heap.size = w.heap.size + 1 := by simp
  have keep : ∀ k, k ≠ g → ((w.alloc (.cells #[.int .i32 (l[j].id % 7), .int .i32 (l[j].dist % 7)] 21)).setCell ⟨g, j * 3 + 1 + 1, none⟩ (.slice (some ⟨w.heap.size, 0, none⟩) 2 2)).heap[k]? = (w.alloc (.cells #[.int .i32 (l[j].id % 7), .int .i32 (l[j].dist % 7)] 21)).heap[k]? := fun k hk => Below.heap_setCell _ _ _ _ (fun e => hk (by rw [e]))
  have innE : ∀ k, Inn wo (w.alloc (.cells #[.int .i32 (l[j].id % 7), .int .i32 (l[j].dist % 7)] 21)) (.slice (some ⟨g, 0, none⟩) l.length cap) k → k ≠ g := fun k hk e => hk.2 (by rw [e]; rfl)
  refine ⟨?_, ?_, ?_, ?_, m.fx, m.fc⟩
  · have := own_setCell M.ow rfl (o := j * 3 + 1 + 1) (by omega) (.slice (some ⟨w.heap.size, 0, none⟩) 2 2)
    rw [flat3_setv rs j hjr, e1, e2] at this
    exact this
  · rw [mixZ_set l j hj]
    have := rows_set (w := w.alloc (.cells #[.int .i32 (l[j].id % 7), .int .i32 (l[j].dist % 7)] 21)) (w5 := (w.alloc (.cells #[.int .i32 (l[j].id % 7), .int .i32 (l[j].dist % 7)] 21)).setCell ⟨g, j * 3 + 1 + 1, none⟩ (.slice (some ⟨w.heap.size, 0, none⟩) 2 2)) (G5 := Inn wo ((w.alloc (.cells #[.int .i32 (l[j].id % 7), .int .i32 (l[j].dist % 7)] 21)).setCell ⟨g, j * 3 + 1 + 1, none⟩ (.slice (some ⟨w.heap.size, 0, none⟩) 2 2)) (.slice (some ⟨g, 0, none⟩) l.length cap)) (k := j) (g := w.heap.size) (x := l[j].id % 7) (y := l[j].dist % 7) M.rw (by omega) hjr (fun k hk => ⟨⟨hk.1.1, by rw [hsz]; have := hk.1.2; omega⟩, hk.2⟩) (fun k hk => keep k (innE k hk)) (by rw [keep _ (by omega)]; exact heap_alloc_new _ _) ⟨⟨by omega, by rw [hsz]; omega⟩, by simp only [Value.ownBlock, ne_eq, Option.some.injEq]; omega⟩
    rw [e1, e2, mixZ_at l j hj] at this
    exact this
  · refine (M.rl.agree (fun k hk => keep k ?_) (by rw [hsz, hsz1]; exact Nat.le_refl _)).mono fun k hk => hk.imp_right fun hk => ⟨⟨hk.1.1, by rw [hsz]; have := hk.1.2; omega⟩, hk.2⟩
    rcases hk with hk | hk
    · have := m.fx k hk; omega
    · exact innE k hk
  · exact M.md.setCell (.inr hgw.1) _

theorem InnerS.added {wo w w' : World} {c : Nat} {v : Value} {rs : List Hv} {FX : Nat → Prop} {prev l : List Hz} {i j : Nat} (m : InnerS wo w c v rs FX prev l i j) (hj : j < l.length) {b : Bool} {e : Ending}
    (h : RefAdd w (fun k => FX k ∨ Inn wo w v k) c 1048576 (b, (addsZ 1048576 [] (prev ++ (l.take (j + 1)).map detZ)).2) e w') : InnerS wo w' c v rs FX prev l i (j + 1) := by
  obtain ⟨-, h2, h3⟩ := h
  have hs := h3.size
  have hc := m.fc
  have inn : ∀ k, Inn wo w v k → Inn wo w' v k := fun k hk => ⟨⟨hk.1.1, by have := hk.1.2; omega⟩, hk.2⟩
  refine ⟨?_, ?_, h2.mono fun k hk => ?_, m.md.trans h3 fun k _ hk => hk, m.fx, hc⟩
  · obtain ⟨h0, h1 | ⟨g, cap, cur, rfl, hb, hh, r⟩⟩ := m.ow
    · exact ⟨h0, .inl h1⟩
    · exact ⟨h0, .inr ⟨g, cap, cur, rfl, hb, by rw [h3.block g (lt_block hh) (by omega)]; exact hh, r⟩⟩
  · exact (m.rw.agree fun k hk => h3.block k hk.1.2 (by have := hk.1.1; omega)).mono inn
  · rcases hk with (hk | hk) | hk
    · exact .inl hk
    · exact .inr (inn k hk)
    · refine .inr ⟨⟨by have := m.md.size; omega, hk.2⟩, fun e => ?_⟩
      have := (m.ow.lt k e).2
      omega

theorem InnerS.fhi {wo w : World} {c : Nat} {v : Value} {rs : List Hv} {FX : Nat → Prop} {prev l : List Hz} {i j : Nat} (m : InnerS wo w c v rs FX prev l i j) : ∀ k, (FX k ∨ Inn wo w v k) → k < w.heap.size := by
  rintro k (h | h)
  · exact Nat.lt_of_lt_of_le (m.fx k h) m.md.size
  · exact h.1.2

theorem InnerS.good {wo w : World} {c : Nat} {v : Value} {rs : List Hv} {FX : Nat → Prop} {prev l : List Hz} {i j : Nat} (_ : InnerS wo w c v rs FX prev l i j) (hv : ∀ h ∈ prev, h.vec.length ≤ 1000000) (hl : prev.length + l.length ≤ 1000000) :
    GoodL 1048576 (addsZ 1048576 [] (prev ++ (l.take j).map detZ)).2 ∧ (addsZ 1048576 [] (prev ++ (l.take j).map detZ)).2.length ≤ 1000000 := by
  refine ⟨addsZ_good (by omega) (GoodL.nil _) _ fun h hh => ?_, ?_⟩
  · rcases List.mem_append.1 hh with h1 | h1
    · exact hv h h1
    · exact det_vec h h1
  · have := adds_len 1048576 (prev ++ (l.take j).map detZ)
    rw [List.length_append, List.length_map, List.length_take] at this
    omega

theorem mixZ_done (l : List Hz) (j : Nat) (hj : j < l.length) : (mixZ l (j + 1))[j]'(by rw [mixZ_length]; exact hj) = detZ l[j] := by simp [mixZ]

theorem own_cell {w : World} {base e size n g i : Nat} {v u : Value} {xs : List Value} (h : w.ownsRow base e size v n xs) (hg : v.ownBlock = some g) (hx : xs[i]? = some u) : w.cell? ⟨g, i, none⟩ = some u := by
  have := own_rangeAt h hg i [u] (fun j z hj => by
    have : j = 0 := by
      have := (List.getElem?_eq_some_iff.1 hj).1
      simp at this; omega
    subst this
    simp at hj; subst hj; exact hx) 0 u rfl
  simpa using this

theorem own_slice {w : World} {base e size n : Nat} {v : Value} {xs : List Value} (h : w.ownsRow base e size v n xs) : ∃ q c, v = .slice q n c := by
  rcases h.2 with ⟨rfl, rfl⟩ | ⟨g, cap, cur, hv, _⟩
  · exact ⟨_, _, rfl⟩
  · exact ⟨_, _, hv⟩

theorem wrap7 {x : Int} (h : 0 ≤ x) : IntKind.i32.wrap (x.tmod 7) = x % 7 := by
  rw [Int.tmod_eq_emod_of_nonneg h]
  simp only [IntKind.wrap, IntKind.signed, IntKind.bits]
  simp
  omega

theorem det_snoc (prev l : List Hz) (j : Nat) (hj : j < l.length) : (addsZ 1048576 [] (prev ++ (l.take (j + 1)).map detZ)).2 = (addZ 1048576 (addsZ 1048576 [] (prev ++ (l.take j).map detZ)).2 (detZ l[j])).2 := by
  rw [take_snoc l j hj, List.map_append, ← List.append_assoc]
  simp only [List.map_cons, List.map_nil]
  rw [addsZ_snoc]

end Go.Proofs.Ytjnkiloomdeljaa

namespace Go.Proofs.Ytjnkiloomdeljaa
open Go.RowKit

/-- what the law lays of the first k parts -/
def partsZ (ls : List (List Hz)) (k : Nat) : List (List Hz) := (ls.take k).map fun ms => (hitsZ 12 ms).map detZ

theorem partsZ_snoc (ls : List (List Hz)) (k : Nat) (hk : k < ls.length) : partsZ ls (k + 1) = partsZ ls k ++ [(hitsZ 12 ls[k]).map detZ] := by
  unfold partsZ
  rw [take_snoc ls k hk, List.map_append]
  rfl

theorem HitsF.front {w : World} {F : Nat → Prop} {p : Option Addr} {n c : Nat} {l : List Hz} (h : HitsF w F (.slice p n c) l) {k : Nat} (hk : k ≤ l.length) : HitsF w F (.slice p k c) (l.take k) := by
  obtain ⟨p', cap, hv, h1, h2, h3, h4⟩ := h
  obtain ⟨rfl, rfl, rfl⟩ := Value.slice.inj hv
  have hl : (l.take k).length = k := by rw [List.length_take]; omega
  refine ⟨p, c, by rw [hl], by omega, h2, h3, fun i hi => ?_⟩
  obtain ⟨b, off, u, r⟩ := h4 i (by omega)
  exact ⟨b, off, u, by simpa [List.getElem_take] using r⟩

theorem ListsF.keep {w w' : World} {B : Nat} {v : Value} {ls : List (List Hz)} (h : ListsF w (fun k => B ≤ k ∧ k < w.heap.size) v ls) (hb : Below w.heap.size w w') : ListsF w' (fun k => B ≤ k ∧ k < w'.heap.size) v ls := by
  have hs := hb.size
  obtain ⟨p, cap, hv, h1, h2, h3, h4⟩ := h.agree (Agree.of_below hb fun k hk => hk.2)
  refine ⟨p, cap, hv, h1, h2, h3, fun i hi => ?_⟩
  obtain ⟨b, off, u, hp, hf, c0, hn⟩ := h4 i hi
  exact ⟨b, off, u, hp, ⟨hf.1, by omega⟩, c0, hn.mono fun k hk => ⟨hk.1, by omega⟩⟩

theorem sameHits_self (F G : Nat → Prop) (l : List Hz) (v u : Value) (w : World) (h : HitsF w F v l) (g : HitsF w G u l) :
    Calls Try.prog 12 #[v, u] w fun e w' => e = .returned (.bool true) ∧ Drawn w w' :=
  (sameHits F G l l v u w h g).mono fun e w' hh => ⟨hh.1.trans (by rw [decide_eq_true (Eq.refl l)]), hh.2⟩

/-- all that was laid, both ways round -/
theorem merged {w : World} {B c : Nat} {vl vb : Value} {ps : List Value} {E FX : Nat → Prop} {ls : List (List Hz)} (m : MState w B c vl vb ps E FX ls) {n : Nat} (hn : 1 ≤ n) (hdet : ∀ a ∈ ls.flatten, ∀ b ∈ ls.flatten, a.id = b.id → a.dist = b.dist → a = b) :
    mergeZ n ls = (addsZ 1048576 [] ls.flatten).2.take n ∧ mergeZ n ls.reverse = (addsZ 1048576 [] ls.flatten).2.take n := by
  have hv := m.fvec
  have hl := m.flat
  have hmem : ∀ x, x ∈ ls.flatten ↔ x ∈ ls.reverse.flatten := fun x => by simp [List.mem_flatten]
  have hl2 : ls.reverse.flatten.length ≤ 72 := by
    have := flat_len (ls := ls.reverse) (n := 12) fun ms hm => m.l12 ms (List.mem_reverse.1 hm)
    have h6 := m.ln
    rw [List.length_reverse] at this
    omega
  refine ⟨by rw [mergeZ_flat]; exact adds_take hn _ hv (by omega) (by omega), ?_⟩
  rw [mergeZ_flat, adds_take (N := 1048576) hn _ (fun h hh => hv h ((hmem h).2 hh)) (by omega) (by omega), adds_same (by omega) hv (by omega) (by omega) hdet hmem]

end Go.Proofs.Ytjnkiloomdeljaa

namespace Go.Proofs.Ytjnkiloomdeljaa
open Go.RowKit

theorem intu_one {k : IntKind} {xs : List Int} : ∀ u ∈ xs.map (Value.int k), u.oneCell' = true := by
  intro u hu; obtain ⟨x, _, rfl⟩ := List.mem_map.1 hu; rfl

theorem src_takeU {w : World} {k : IntKind} {p : Option Addr} {c : Nat} {xs : List Int} (h : Nums w k (.slice p xs.length c) xs) (m : Nat) (hm : m ≤ xs.length) (e : Nat) : SrcAt (w.alloc (.cells #[] e)) p m c 1 ((xs.take m).map (Value.int k)) := by
  have s0 := (SrcAt.of_nums h).below ((Below.refl _ w).alloc (Nat.le_refl _) (.cells #[] e))
  refine ⟨by simp; omega, fun hp => ?_, fun a ha j u hj => s0.cells a ha j u ?_⟩
  · obtain ⟨h1, h2⟩ := s0.nil hp
    exact ⟨by omega, h2⟩
  · rw [List.map_take, List.getElem?_take] at hj
    split at hj
    · exact hj
    · cases hj

end Go.Proofs.Ytjnkiloomdeljaa

namespace Go.Proofs.Ytjnkiloomdeljaa
open Go.RowKit Go.ChangeMaps

def resI (L : List Hz) (E : Eg) (most : Int) (ks : List Int) : List Hz × Nat := if 1 ≤ most ∧ most ≤ 256 then resW L E most.toNat ks else ([], 0)

section
variable {w0 w : World} {f x p m c : Nat} {Q : Gr} {N : List Int} {E : Eg} {lv : Value} {L : List Hz}

theorem Fld.walksI (h : Fld w0 w f x p m c Q N E lv L) (ok : LayOk N L) (most : Int) (kv : Value) (ks : List Int) (hk : Nums w .u64 kv ks) (hk0 : ∀ k, kv.ownBlock = some k → 0 < ks.length → k < w.heap.size) :
    Calls Try.prog 10 #[.iface 26 (.pointer (some ⟨f, 0, none⟩)), .int .i64 most, kv] w (RunTells w (resI L E most ks).1 (resI L E most ks).2) := by
  unfold resI
  by_cases hm : 1 ≤ most ∧ most ≤ 256
  · rw [if_pos hm]
    have := h.walks ok most.toNat (by omega) kv ks hk hk0
    rwa [show ((most.toNat : Nat) : Int) = most by omega] at this
  · rw [if_neg hm]
    exact (walkNone w _ kv most hm).mono fun e w' hh => ⟨_, [], hh.1, World.ownsRow_nil _ _ _ _, Held3.nil _ _ _, hh.2⟩

theorem Fld.refsI (h : Fld w0 w f x p m c Q N E lv L) (ok : LayOk N L) (hE : E.length ≤ 400000) (most : Int) (kv : Value) (ks : List Int) (hk : Nums w .u64 kv ks) :
    Calls Try.prog 11 #[.pointer (some ⟨x, 0, none⟩), .int .i64 most, kv] w (RefTells w (resI L E most ks).1 (resI L E most ks).2) := by
  unfold resI
  by_cases hm : 1 ≤ most ∧ most ≤ 256
  · rw [if_pos hm]
    have := h.refs ok hE most.toNat (by omega) kv ks hk
    rwa [show ((most.toNat : Nat) : Int) = most by omega] at this
  · rw [if_neg hm]
    exact (refNone w _ kv most hm).mono fun e w' hh => ⟨_, fun _ => False, hh.1, HitsF.nil _ _, hh.2 ▸ Below.refl _ _⟩
end

set_option maxRecDepth 100000 in
set_option maxHeartbeats 8000000 in
theorem walkRuns (w : World) (F : Nat → Prop) (l : List Hz) (v : Value) (h : HitsF w F v l) (es : List (Int × Int)) (ev : Value) (he : PairsA w ev es) (most : Int) (fr : List Int) (fv : Value) (hf : Nums w .u64 fv fr) :
    Law 3 #[v, ev, .int .i64 most, fv] w := by
  have cA := Lib.hid (awake10 w)
  have HLL := Lib.hid h
  have HEE := Lib.hid he
  clear h he
  go_enter Try.func3, Try.ntmps3
  go_wp2_with fail
  (with_reducible refine cA.out.mono ?_)
  rintro e w1 ⟨rfl, hb1⟩
  have cL := Lib.hid (lawLay w1 F l v (HLL.out.below hb1) es ev (HEE.out.below hb1))
  have B1 := Lib.hid hb1
  clear hb1
  go_wp2_with fail
  (with_reducible refine cL.out.mono ?_)
  rintro e w2 ⟨f, x, p, m, c, Q, lv, rfl, hF⟩
  have OK := Lib.hid (layN_ok l)
  have LE := Lib.hid (layE_len (layN l).1 es)
  obtain ⟨NN, hNN⟩ : ∃ N, N = (layN l).1 := ⟨_, rfl⟩
  obtain ⟨LL, hLL⟩ : ∃ L, L = (layN l).2 := ⟨_, rfl⟩
  obtain ⟨EE, hEE⟩ : ∃ E, E = layE (layN l).1 es := ⟨_, rfl⟩
  rw [← hEE] at hF LE
  rw [← hNN, ← hLL] at hF OK
  have F2 := Lib.hid hF
  have hs12 := B1.out.size
  clear hNN hLL hEE hF
  have NF2 := Lib.hid (hf.below (B1.out.trans (F2.out.old.mono hs12)))
  obtain ⟨fp, fc, hfv, hcap, hbig, -, -⟩ := id NF2.out.slice
  replace hfv : fv = .slice fp fr.length fc := hfv
  subst hfv
  obtain ⟨mm, hmm⟩ : ∃ mm : Nat, (mm : Int) = min (fr.length : Int) 5 := ⟨(min (fr.length : Int) 5).toNat, by omega⟩
  have hmx : mm ≤ fr.length := by omega
  have hm5 : mm ≤ 5 := by omega
  have SRC := src_takeU NF2.out mm hmx 37
  obtain ⟨q, k, c3, w3, hrun, hown, hg, -⟩ := run_app rowU64R (own_empty w2 w2.heap.size 37 1 (Nat.le_refl _)) (by simp) SRC intu_one (by simp [maxLen]; omega) (by omega)
  obtain rfl : mm = k := ((own_len hown).trans (Nat.zero_add mm)).symm
  have hb3 : Below w2.heap.size w2 w3 := ((Below.refl _ w2).alloc (Nat.le_refl _) _).grown hg (by simp) (by simp [Value.ownBlock])
  have e5 : fr.take mm = fr.take 5 := by
    by_cases h : fr.length ≤ 5
    · rw [List.take_of_length_le (by omega), List.take_of_length_le (by omega)]
    · congr 1; omega
  have hlen : (fr.take mm).length = mm := by simp; omega
  have K3 : Nums w3 .u64 (.slice q mm c3) (fr.take 5) ∧ ∀ b, (Value.slice q mm c3).ownBlock = some b → w2.heap.size ≤ b ∧ b < w3.heap.size := by
    refine ⟨?_, fun b hb => hown.lt b hb⟩
    rw [← e5]
    exact Nums.of_own (by simpa using hown)
  have hmn : ∀ w : World, (Builtin.min_ #[3, 3] 3 #[.int .i64 fr.length, .int .i64 5]).run Try.prog w = .ok (.int .i64 mm) w := by
    intro w
    simp [Builtin.min_, Builtin.min2, hmm]
    split <;> omega
  have hm0 : (0 : Int) ≤ mm ∧ (mm : Int) ≤ fc := by omega
  have htn : ((mm : Nat) : Int).toNat = mm := Int.toNat_natCast _
  have KK := Lib.hid K3
  have F3 := Lib.hid (F2.out.below hb3)
  have B3 := Lib.hid hb3
  clear hown hg SRC e5 hlen hmm K3 hb3
  go_wp2_with (with_reducible refine wpList_append_eq hrun rfl _ _ rfl rfl rfl ?_)
  have cW := Lib.hid (F3.out.walksI OK.out most _ _ KK.out.1 fun b hb _ => (KK.out.2 b hb).2)
  obtain ⟨LR, hLR⟩ : ∃ L, L = (resI LL EE most (fr.take 5)).1 := ⟨_, rfl⟩
  obtain ⟨nR, hnR⟩ : ∃ n, n = (resI LL EE most (fr.take 5)).2 := ⟨_, rfl⟩
  have HR := Lib.hid (And.intro hLR hnR)
  rw [← hLR, ← hnR] at cW
  clear hLR hnR
  (with_reducible refine cW.out.mono ?_)
  intro e w4 hT
  obtain ⟨v4, rfl, hG, hb4⟩ := hT.got
  have F4 := Lib.hid (F3.out.below hb4)
  have cR := Lib.hid (F4.out.refsI OK.out (by have := LE.out; omega) most _ _ (KK.out.1.below hb4))
  have x4 := cellsB F4.out.fcell 1
  rw [← HR.out.1, ← HR.out.2] at cR
  have G4 := Lib.hid hG
  have B4 := Lib.hid hb4
  clear hT hG hb4
  go_wp2_with fail
  (with_reducible refine cR.out.mono ?_)
  rintro e w5 ⟨v5, FF, rfl, hG5, hb5⟩
  have G5 := Lib.hid hG5
  have B5 := Lib.hid hb5
  have cN := Lib.hid (walkNil w5 (.slice q mm c3) most)
  clear hG5 hb5
  go_wp2_with fail
  (with_reducible refine cN.out.mono ?_)
  rintro e w6 ⟨rfl, hb6⟩
  have cS := Lib.hid (sameHits_self _ _ LR _ _ w6 ((G4.out.below B5.out).below hb6) (G5.out.below hb6))
  have B6 := Lib.hid hb6
  clear hb6
  go_wp2_with fail
  (with_reducible refine cS.out.mono ?_)
  rintro e w7 ⟨rfl, hd7⟩
  have B7 : Hid (Below w.heap.size w w7) := by
    have b2 := F2.out.old
    have h1 := B1.out.size
    have h2 := b2.size
    have h3 := B3.out.size
    have h4 := B4.out.size
    have h5 := B5.out.size
    have h6 := B6.out.size
    exact B1.out.trans ((b2.mono h1).trans ((B3.out.mono (by omega)).trans ((B4.out.mono (by omega)).trans ((B5.out.mono (by omega)).trans ((B6.out.mono (by omega)).trans (hd7.below.mono (by omega)))))))
  clear hd7
  go_wp2_with fail
  go_ret
  exact ⟨rfl, B7.out⟩

end Go.Proofs.Ytjnkiloomdeljaa

namespace Go.Proofs.Ytjnkiloomdeljaa
open Go.RowKit Go.ChangeMaps

theorem GS.dreachW {B p m c : Nat} {Q : Gr} {N : List Int} {E : Eg} {w : World} (h : GS B p m c Q N E w) (hl : E.length ≤ 100000) (x : Int) (s : Bool) :
    Calls Try.prog 17 #[.pointer (some ⟨c, 0, none⟩), .int .u64 x, .bool s] w (NewL w (reachD N E x s)) := by
  obtain ⟨vn, ve, hd⟩ := h.d
  unfold reachD
  by_cases hx : x ∈ N
  · rw [if_pos hx]; exact dReach w B c N E vn ve x s hd hx (by omega)
  · rw [if_neg hx]; exact (dReach_no w B c N E vn ve x s hd hx).mono fun e w' hh => NewL.nil hh.1 hh.2

def farHit (L : List Hz) (k : Int) : Hz := hitK k ((farL L k).getD 0)

theorem far_in {N : List Int} {L : List Hz} (ok : LayOk N L) (k : Int) : (farL L k).isSome = true ↔ k ∈ N := by
  rw [ok.same]
  constructor
  · intro h
    obtain ⟨d, hd⟩ := Option.isSome_iff_exists.1 h
    exact farL_key hd
  · intro h
    obtain ⟨y, hy, rfl⟩ := List.mem_map.1 h
    rw [farL_of ok.once hy]; rfl

theorem near_adj {N : List Int} {E : Eg} (eg : Egs N E) (a b : Int) : b ∈ nearD E a false ↔ adj E false a b := by
  rw [mem_nearD eg, adj_false]
  constructor
  · rintro ⟨v, h, -⟩; rw [h]; rfl
  · intro h
    obtain ⟨v, hv⟩ := Option.isSome_iff_exists.1 h
    exact ⟨v, hv, rfl⟩

theorem endR {L : List Hz} (E : Eg) {most : Nat} (hm : 1 ≤ most) (ks : List Int) : ∃ s V, EndW (L.map (·.id)) (farL L) (fun k => nearD E k false) most ks (resW L E most ks).1 (resW L E most ks).2 s V :=
  endW (fun k d => farL_key) hm ks

theorem ids_far {K : List Int} {L l : List Hz} {nr : Int → List Int} {most : Nat} {ks : List Int} {n : Nat} {s : Ws} {V : List Int} (h : EndW K (farL L) nr most ks l n s V) : l = (l.map (·.id)).map (farHit L) := by
  rw [List.map_map]
  have : l.map (farHit L ∘ fun h => h.id) = l.map id := List.map_congr_left fun y hy => by
    rw [← h.list] at hy
    have h1 := h.seen.farl y hy
    have h2 := h.good.plain y hy
    simp only [Function.comp, farHit, h1, Option.getD_some, hitK, id]
    exact hz_ext rfl rfl h2.symm
  rw [this, List.map_id]

theorem whole_walk {N : List Int} {L : List Hz} {E : Eg} (ok : LayOk N L) (eg : Egs N E) (k : Int) {most : Nat} (hm1 : 1 ≤ most) (hm : L.length ≤ most) :
    (resW L E most [k]).1.Perm ((reachD N E k false).map (farHit L)) ∧ (resW L E most [k]).2 = (reachD N E k false).length ∧ Sorted (resW L E most [k]).1 := by
  obtain ⟨s, V, h⟩ := endR (L := L) E hm1 [k]
  obtain ⟨hS, hp, hc⟩ := h.whole (by simpa using hm)
  have hV : V.Perm (reachD N E k false) := by
    rw [List.perm_ext_iff_of_nodup h.seen.once (sorted_nodup (reachD_sorted _ _ _ _))]
    intro x
    rw [mem_reachD eg]
    constructor
    · intro hx
      obtain ⟨a, ha, hfa, -, hw⟩ := h.seen.way x ((hS x).2 hx)
      obtain rfl : a = k := by simpa using ha
      exact ⟨(far_in ok a).1 hfa, hw.mono fun a b hb => (near_adj eg a b).1 hb⟩
    · rintro ⟨hk, hw⟩
      induction hw with
      | here => exact (hS k).1 (h.begun k (by simp) ((far_in ok k).2 hk))
      | @step b c hb hr ih => exact hc b ih c ((near_adj eg b c).2 hr) ((far_in ok c).2 (way_in eg (.step hb hr) hk))
  refine ⟨?_, ?_, h.list ▸ h.good.best.sorted⟩
  · rw [ids_far h]
    exact (hp.trans hV).map _
  · rw [← h.count]; exact hV.length_eq

set_option maxRecDepth 100000 in
set_option maxHeartbeats 8000000 in
theorem walkWhole (w : World) (F : Nat → Prop) (l : List Hz) (v : Value) (h : HitsF w F v l) (es : List (Int × Int)) (ev : Value) (he : PairsA w ev es) (more from_ : Int) (hmore : 0 ≤ more ∧ more ≤ 255) :
    Law 5 #[v, ev, .int .u8 more, .int .u64 from_] w := by
  have cA := Lib.hid (awake10 w)
  have HLL := Lib.hid h
  have HEE := Lib.hid he
  clear h he
  go_enter Try.func5, Try.ntmps5
  go_wp2_with fail
  (with_reducible refine cA.out.mono ?_)
  rintro e w1 ⟨rfl, hb1⟩
  have cL := Lib.hid (lawLay w1 F l v (HLL.out.below hb1) es ev (HEE.out.below hb1))
  have B1 := Lib.hid hb1
  clear hb1
  go_wp2_with fail
  (with_reducible refine cL.out.mono ?_)
  rintro e w2 ⟨f, x, p, m, c, Q, lv, rfl, hF⟩
  have OK := Lib.hid (layN_ok l)
  have LE := Lib.hid (layE_len (layN l).1 es)
  obtain ⟨NN, hNN⟩ : ∃ N, N = (layN l).1 := ⟨_, rfl⟩
  obtain ⟨LL, hLL⟩ : ∃ L, L = (layN l).2 := ⟨_, rfl⟩
  obtain ⟨EE, hEE⟩ : ∃ E, E = layE (layN l).1 es := ⟨_, rfl⟩
  rw [← hEE] at hF LE
  rw [← hNN, ← hLL] at hF OK
  have F2 := Lib.hid hF
  have hs12 := B1.out.size
  clear hNN hLL hEE hF
  have c0 := cellsB F2.out.fcell 0
  have c1 := cellsB F2.out.fcell 1
  have cLen := Lib.hid F2.out.gs.gp.length
  go_wp2_with fail
  (with_reducible refine cLen.out.mono ?_)
  rintro e w2' ⟨rfl, rfl⟩
  have hfew := OK.out.few
  have hLN : LL.length ≤ NN.length := by
    have := nodup_len OK.out.once (K := NN) fun x hx => (OK.out.same x).2 hx
    simpa using this
  obtain ⟨most, hmost⟩ : ∃ most : Nat, (most : Int) = NN.length + 1 + more % 50 := ⟨NN.length + 1 + (more % 50).toNat, by omega⟩
  go_wp2_with fail
  obtain ⟨W3, hW3⟩ : ∃ W3, W3 = w2'.alloc (.cells #[.int .u64 from_] 37) := ⟨_, rfl⟩
  have hb3 : Below w2'.heap.size w2' W3 := by rw [hW3]; exact (Below.refl _ _).alloc (Nat.le_refl _) _
  have y3 : W3.heap[w2'.heap.size]? = some (.cells #[.int .u64 from_] 37 (0, 0)) := by rw [hW3]; exact heap_alloc_new _ _
  have F3 := Lib.hid (F2.out.below hb3)
  have cW := Lib.hid (F3.out.walks OK.out most (by omega) (.slice (some ⟨w2'.heap.size, 0, none⟩) 1 1) [from_] (Nums.mk (xs := [from_]) (by simp) (by simp) (by simp) (fun i hi => ⟨w2'.heap.size, 0, rfl, by
    have hi1 : i < 1 := hi
    obtain rfl : i = 0 := by omega
    exact cellsB y3 0⟩)) (fun k hk _ => by simp only [Value.ownBlock, Option.some.injEq] at hk; rw [← hk]; exact lt_block y3))
  have hWW := whole_walk OK.out F2.out.gs.gp.rel.egs from_ (most := most) (by omega) (by omega)
  have hRL := reachD_len F2.out.gs.gp.rel.egs from_ false
  obtain ⟨LR, hLR⟩ : ∃ L, L = (resW LL EE most [from_]).1 := ⟨_, rfl⟩
  obtain ⟨nR, hnR⟩ : ∃ n, n = (resW LL EE most [from_]).2 := ⟨_, rfl⟩
  obtain ⟨RE, hRE⟩ : ∃ R, R = reachD NN EE from_ false := ⟨_, rfl⟩
  have hids : Ids (RE.map (farHit LL)) := by
    have h1 := sorted_nodup (reachD_sorted NN EE from_ false)
    rw [← hRE] at h1
    unfold Ids
    rw [List.pairwise_map]
    exact h1
  rw [← hLR, ← hnR] at cW
  rw [← hLR, ← hnR, ← hRE] at hWW
  rw [← hRE] at hRL
  have HW := Lib.hid (And.intro hWW hids)
  obtain rfl : RE.length = nR := hWW.2.1.symm
  have hRE30 : RE.length ≤ 30 := by omega
  rw [← hW3, ← hmost]
  clear hW3 hb3 y3 hmost hWW hids hLR hnR hRL hLN hmore c0 c1
  (with_reducible refine cW.out.mono ?_)
  intro e w4 hT
  obtain ⟨v4, rfl, hG, hb4⟩ := hT.got
  have F4 := Lib.hid (F3.out.below hb4)
  have cR := Lib.hid (F4.out.gs.dreachW (by have := LE.out; omega) from_ false)
  rw [← hRE] at cR
  have x4 := cellsB F4.out.fcell 1
  have x0 := cellsB F4.out.xcell 0
  have G4 := Lib.hid hG
  clear hT hG hb4 hRE
  go_wp2_with fail
  (with_reducible refine cR.out.mono ?_)
  rintro e w5 ⟨v5, rfl, ho5, hb5⟩
  have N5 := Nums.of_own ho5
  obtain ⟨rp, rc, rfl, -, -, -, -⟩ := N5.slice
  have HN5 := Lib.hid N5
  have G5 := Lib.hid (G4.out.below hb5)
  have F5 := Lib.hid (F4.out.below hb5)
  have hr63 : RE.length ≤ 9223372036854775807 := by omega
  clear ho5 hb5 N5 x4 x0
  go_wp2_with fail
  go_loopg [14, 54] RE.length (fun q' wv0 i wr => ∃ (j : Nat) (wv : Value), q' = RE.length - j ∧ j ≤ RE.length ∧ i = .int .i64 j ∧ wv = wv0 ∧ wr.ownsRow w5.heap.size 43 3 wv j (flat3 (((RE.take j).map (farHit LL)).map bareV)) ∧ Below w5.heap.size w5 wr)
  case atStart => exact ⟨0, _, rfl, by omega, rfl, rfl, by simpa [flat3] using World.ownsRow_nil _ _ _ _, Below.refl _ _⟩
  case round =>
    obtain ⟨j, wv, rfl, hj, rfl, rfl, hown, hbr⟩ := hrel
    by_cases hlt : j < RE.length
    · obtain ⟨b, off, rfl, e0⟩ := (HN5.out.below hbr).elem hlt
      have hst : (RE.take (j + 1)).map (farHit LL) = (RE.take j).map (farHit LL) ++ [farHit LL RE[j]] := by rw [List.take_succ_eq_append_getElem hlt, List.map_append]; rfl
      obtain ⟨k, hk⟩ : ∃ k, k = RE[j] := ⟨_, rfl⟩
      rw [← hk] at e0 hst
      have ST := Lib.hid hst
      have FR := Lib.hid (F5.out.below hbr)
      have cF := Lib.hid (refFar wr x lv _ LL k (cellsB FR.out.xcell 1) (FR.out.hits OK.out.bare))
      have x4 := cellsB FR.out.fcell 1
      have OW := Lib.hid (And.intro hown hbr)
      obtain ⟨d, hd⟩ : ∃ d, d = (farL LL k).getD 0 := ⟨_, rfl⟩
      obtain ⟨bo, hbo⟩ : ∃ b, b = (farL LL k).isSome := ⟨_, rfl⟩
      have HD := Lib.hid hd
      rw [← hd, ← hbo] at cF
      clear hk hst hown hbr hd hbo
      go_wp2_with fail
      (with_reducible refine cF.out.mono ?_)
      rintro e w6 ⟨v6, rfl, rfl, hb6⟩
      have hws : wr.heap.size ≤ w6.heap.size := hb6.size
      obtain ⟨g, cp, w7, hrun, hown7, hg7, -, -⟩ := run_push rowHit (own_below OW.out.1 hb6) (by have := OW.out.2.size; omega) #[.int .u64 k, .int .u64 d, .slice none 0 0] rfl (by simp [Value.oneCell']) (by simp [maxLen]; omega) (by omega)
      have OW7 := Lib.hid (show w7.ownsRow w5.heap.size 43 3 (.slice (some ⟨g, 0, none⟩) (j + 1) cp) (j + 1) (flat3 (((RE.take (j + 1)).map (farHit LL)).map bareV)) ∧ Below w5.heap.size w5 w7 from by
        refine ⟨?_, ?_⟩
        · rw [ST.out, List.map_append, flat3_append]
          have : flat3 ([farHit LL k].map bareV) = [.int .u64 k, .int .u64 d, .slice none 0 0] := by rw [HD.out]; rfl
          rw [this]
          exact hown7
        · have b1 := OW.out.2.trans (hb6.mono OW.out.2.size)
          have b2 := b1.alloc (by have := b1.size; omega : w5.heap.size ≤ w6.heap.size) (.cells #[.int .u64 k, .int .u64 d, .slice none 0 0] 43)
          exact b2.grown hg7 (by have := b1.size; simp; omega) fun b hb => (OW.out.1.lt b hb).1)
      clear hb6 hown7 hg7
      go_wp2_with (with_reducible refine wpList_append_eq hrun rfl _ _ rfl rfl rfl ?_)
      go_roundg (RE.length - (j + 1))
      case measure => omega
      case rel => exact ⟨j + 1, _, rfl, by omega, by go_num, rfl, OW7.out.1, OW7.out.2⟩
    · obtain rfl : j = RE.length := by omega
      rw [List.take_length] at hown
      have hH : HitsF wr (fun b => wv.ownBlock = some b) wv (RE.map (farHit LL)) := by
        have hl : (RE.map (farHit LL)).length = RE.length := by simp
        exact HitsF.of_own hown (fun b hb => hb) (bare_rows fun y hy => by obtain ⟨k, -, rfl⟩ := List.mem_map.1 hy; rfl)
      have cS := Lib.hid (sort _ LR HW.out.1.2.2 HW.out.2 HW.out.1.1 (by simp; omega) wv _ wr hH)
      have GR := Lib.hid (G5.out.below hbr)
      have BR := Lib.hid hbr
      clear hown hbr hH
      go_wp2_with fail
      (with_reducible refine cS.out.mono ?_)
      rintro e w8 ⟨v8, rfl, hH8, hb8⟩
      have cQ := Lib.hid (sameHits_self _ _ LR _ _ w8 (GR.out.below hb8) hH8)
      have B8 := Lib.hid hb8
      clear hH8 hb8
      go_wp2_with fail
      (with_reducible refine cQ.out.mono ?_)
      rintro e w9 ⟨rfl, hd9⟩
      have FIN := Lib.hid (show Below w.heap.size w w9 from (B1.out.trans (((F5.out.below BR.out).below B8.out).below hd9.below |>.old.mono hs12)))
      clear hd9
      go_wp2_with fail
      go_ret
      exact ⟨rfl, FIN.out⟩

end Go.Proofs.Ytjnkiloomdeljaa

namespace Go.Proofs.Ytjnkiloomdeljaa
open Go.RowKit Go.ChangeMaps

theorem ends_none {L : List Hz} {E : Eg} {most : Nat} (hm : 1 ≤ most) {ks : List Int} (h : (resW L E most ks).1 = []) {k : Int} (hk : k ∈ ks) : farL L k = none := by
  obtain ⟨s, V, hE⟩ := endR (L := L) E hm ks
  cases hf : farL L k with
  | none => rfl
  | some d =>
    obtain ⟨x, hx, -⟩ := hE.seen.first k (hE.begun k hk (by rw [hf]; rfl)) d hf
    rw [hE.list, h] at hx
    cases hx

theorem ends_one {L : List Hz} {E : Eg} {ks : List Int} {y : Hz} (h : (resW L E 1 ks).1 = [y]) : ∀ k ∈ nearD E y.id false, ∀ d, farL L k = some d → near (hitK k d) y = false := by
  obtain ⟨s, V, hE⟩ := endR (L := L) E (Nat.le_refl 1) ks
  exact hE.ends h

theorem res_len {L : List Hz} {E : Eg} {most : Nat} (hm : 1 ≤ most) {ks : List Int} : (resW L E most ks).1.length ≤ most := by
  obtain ⟨s, V, hE⟩ := endR (L := L) E hm ks
  rw [← hE.list]; exact hE.good.best.len

set_option maxRecDepth 100000 in
set_option maxHeartbeats 8000000 in
theorem walkEnds (w : World) (F : Nat → Prop) (l : List Hz) (v : Value) (h : HitsF w F v l) (es : List (Int × Int)) (ev : Value) (he : PairsA w ev es) (from_ : Int) :
    Law 4 #[v, ev, .int .u64 from_] w := by
  have cA := Lib.hid (awake10 w)
  have HLL := Lib.hid h
  have HEE := Lib.hid he
  clear h he
  go_enter Try.func4, Try.ntmps4
  go_wp2_with fail
  (with_reducible refine cA.out.mono ?_)
  rintro e w1 ⟨rfl, hb1⟩
  have cL := Lib.hid (lawLay w1 F l v (HLL.out.below hb1) es ev (HEE.out.below hb1))
  have B1 := Lib.hid hb1
  clear hb1
  go_wp2_with fail
  (with_reducible refine cL.out.mono ?_)
  rintro e w2 ⟨f, x, p, m, c, Q, lv, rfl, hF⟩
  have OK := Lib.hid (layN_ok l)
  have LE := Lib.hid (layE_len (layN l).1 es)
  obtain ⟨NN, hNN⟩ : ∃ N, N = (layN l).1 := ⟨_, rfl⟩
  obtain ⟨LL, hLL⟩ : ∃ L, L = (layN l).2 := ⟨_, rfl⟩
  obtain ⟨EE, hEE⟩ : ∃ E, E = layE (layN l).1 es := ⟨_, rfl⟩
  rw [← hEE] at hF LE
  rw [← hNN, ← hLL] at hF OK
  have F2 := Lib.hid hF
  have hs12 := B1.out.size
  clear hNN hLL hEE hF
  have hfew := OK.out.few
  go_wp2_with fail
  obtain ⟨W3, hW3⟩ : ∃ W3, W3 = w2.alloc (.cells #[.int .u64 from_] 37) := ⟨_, rfl⟩
  have hb3 : Below w2.heap.size w2 W3 := by rw [hW3]; exact (Below.refl _ _).alloc (Nat.le_refl _) _
  have y3 : W3.heap[w2.heap.size]? = some (.cells #[.int .u64 from_] 37 (0, 0)) := by rw [hW3]; exact heap_alloc_new _ _
  have F3 := Lib.hid (F2.out.below hb3)
  have cW := Lib.hid (F3.out.walks OK.out 1 (by omega) (.slice (some ⟨w2.heap.size, 0, none⟩) 1 1) [from_] (Nums.mk (xs := [from_]) (by simp) (by simp) (by simp) (fun i hi => ⟨w2.heap.size, 0, rfl, by
    have hi1 : i < 1 := hi
    obtain rfl : i = 0 := by omega
    exact cellsB y3 0⟩)) (fun k hk _ => by simp only [Value.ownBlock, Option.some.injEq] at hk; rw [← hk]; exact lt_block y3))
  rw [show ((1 : Nat) : Int) = 1 from rfl] at cW
  have EN := Lib.hid (And.intro (fun h => ends_none (L := LL) (E := EE) (Nat.le_refl 1) (ks := [from_]) h (k := from_) (by simp)) (fun y h => ends_one (L := LL) (E := EE) (ks := [from_]) (y := y) h))
  have hlen := res_len (L := LL) (E := EE) (Nat.le_refl 1) (ks := [from_])
  obtain ⟨LR, hLR⟩ : ∃ L, L = (resW LL EE 1 [from_]).1 := ⟨_, rfl⟩
  obtain ⟨nR, hnR⟩ : ∃ n, n = (resW LL EE 1 [from_]).2 := ⟨_, rfl⟩
  rw [← hLR] at EN hlen
  rw [← hLR, ← hnR] at cW
  rw [← hW3]
  clear hW3 hb3 y3 hLR hnR
  (with_reducible refine cW.out.mono ?_)
  intro e w4 hT
  obtain ⟨v4, rfl, hG, hb4⟩ := hT.got
  obtain ⟨p4, c4, rfl, -, -, -, hel⟩ := hG
  have F4 := Lib.hid (F3.out.below hb4)
  clear hT hb4
  match LR, hlen, hel, EN with
  | [], _, _, EN =>
    have hF := EN.out.1 rfl
    have cF := Lib.hid (refFar w4 x lv _ LL from_ (cellsB F4.out.xcell 1) (F4.out.hits OK.out.bare))
    rw [hF] at cF
    have x4 := cellsB F4.out.fcell 1
    clear hF
    go_wp2_with fail
    (with_reducible refine cF.out.mono ?_)
    rintro e w5 ⟨v5, rfl, rfl, hb5⟩
    have FIN := Lib.hid (show Below w.heap.size w w5 from B1.out.trans ((F4.out.below hb5).old.mono hs12))
    clear hb5
    go_wp2_with fail
    go_ret
    exact ⟨rfl, FIN.out⟩
  | [y], _, hel, EN =>
    obtain ⟨b4, o4, u4, rfl, -, e0, e1, e2, -⟩ := hel 0 (by simp)
    replace e0 : w4.cell? ⟨b4, o4, none⟩ = some (.int .u64 y.id) := e0
    replace e1 : w4.cell? ⟨b4, o4 + 1, none⟩ = some (.int .u64 y.dist) := e1
    replace e2 : w4.cell? ⟨b4, o4 + 2, none⟩ = some u4 := e2
    have EE0 := Lib.hid (And.intro e0 (And.intro e1 e2))
    have hEN := Lib.hid (EN.out.2 y rfl)
    obtain ⟨W5, hW5⟩ : ∃ W5, W5 = w4.drew := ⟨_, rfl⟩
    have hb5 : Below w4.heap.size w4 W5 := by rw [hW5]; exact (Below.refl _ _).drew
    have F5 := Lib.hid (F4.out.below hb5)
    have I5 := Lib.hid (show W5.cell? ⟨f, 0, none⟩ = some (.pointer (some ⟨p, 0, none⟩)) ∧ W5.cell? ⟨b4, o4, none⟩ = some (.int .u64 y.id) from ⟨cellsB F5.out.fcell 0, below_cells hb5 EE0.out.1⟩)
    have B5 := Lib.hid hb5
    have cN := Lib.hid (F5.out.gs.gp.near (by omega) y.id)
    obtain ⟨NE, hNE⟩ : ∃ l, l = nearD EE y.id false := ⟨_, rfl⟩
    have hNl : NE.length ≤ 100 := by rw [hNE]; exact Nat.le_trans (nearD_len _ _ _) LE.out
    rw [← hNE] at cN hEN
    have HW := Lib.hid hW5
    obtain ⟨yi, hyi⟩ : ∃ z, z = y.id := ⟨_, rfl⟩
    rw [← hyi] at cN I5
    have YI := Lib.hid hyi
    clear hW5 hb5 hNE e0 e1 e2 hel hyi
    go_upto_region 8 with fail
    refine region_go (fun w' => w'.cell? ⟨f, 0, none⟩ = some (.pointer (some ⟨p, 0, none⟩)) ∧ w'.cell? ⟨b4, o4, none⟩ = some (.int .u64 yi)) (by kernel_rfl) ?hS0 (fun hH => ?_)
    case hS0 =>
      rw [← HW.out]; exact I5.out
    rw [← HW.out] at hH ⊢
    refine kY 0 hH ?_
    repeat simp only [Act.put, uA1, uB1, uC1]
    refine kY 1 hH ?_
    repeat simp only [Act.put, uA1, uB1, uC1]
    refine kY 2 hH ?_
    repeat simp only [Act.put, uA1, uB1, uC1]
    refine kY 3 hH ?_
    repeat simp only [Act.put, uA1, uB1, uC1]
    refine kY 4 hH ?_
    repeat simp only [Act.put, uA1, uB1, uC1]
    refine kY 5 hH ?_
    repeat simp only [Act.put, uA1, uB1, uC1]
    refine kY 6 hH ?_
    repeat simp only [Act.put, uA1, uB1, uC1]
    refine kY 7 hH ?_
    repeat simp only [Act.put, uA1, uB1, uC1]
    refine kY 10 hH ?_
    repeat simp only [Act.put, uA1, uB1, uC1]
    refine spk 8 rfl (by decide +kernel) (by rfl) (fun K' hK => ?_)
    go_simp
    with_reducible refine cN.out.mono ?_
    rintro e w6 ⟨v6, rfl, ho6, hb6⟩
    obtain ⟨rp, rc, rfl, -, -, -, -⟩ := (Nums.of_own ho6).slice
    try dsimp only
    refine hK.out _ _ ?hS (fun hH' => ?_)
    case hS =>
      exact ⟨below_cells hb6 hH.1, below_cells hb6 hH.2⟩
    clear hK K' hH; have hH := hH'; clear hH'; repeat simp only [Act.put, uA1, uB1, uC1]
    refine kY 9 hH ?_
    repeat simp only [Act.put, uA1, uB1, uC1]
    refine wpAnyH_done (by decide +kernel) ?_ _
    have N6 := Lib.hid (Nums.of_own ho6)
    have B6 := Lib.hid hb6
    clear hH ho6 hb6
    have F6 := Lib.hid (F5.out.below B6.out)
    have EE6 := Lib.hid (And.intro (below_cells B6.out (below_cells B5.out EE0.out.1)) (And.intro (below_cells B6.out (below_cells B5.out EE0.out.2.1)) (below_cells B6.out (below_cells B5.out EE0.out.2.2))))
    have hn63 : NE.length ≤ 9223372036854775807 := by omega
    go_wp2_with fail
    go_loopg [53] NE.length (fun q' i wr => ∃ j : Nat, q' = NE.length - j ∧ j ≤ NE.length ∧ i = .int .i64 j ∧ Below w6.heap.size w6 wr)
    case atStart => exact ⟨0, rfl, by omega, rfl, Below.refl _ _⟩
    case round =>
      obtain ⟨j, rfl, hj, rfl, hbr⟩ := hrel
      by_cases hlt : j < NE.length
      · obtain ⟨b, off, rfl, e0⟩ := (N6.out.below hbr).elem hlt
        have hmem : NE[j] ∈ NE := List.getElem_mem hlt
        obtain ⟨k, hk⟩ : ∃ k, k = NE[j] := ⟨_, rfl⟩
        rw [← hk] at e0 hmem
        have hE := hEN.out k hmem
        have FR := Lib.hid (F6.out.below hbr)
        have cF := Lib.hid (refFar wr x lv _ LL k (cellsB FR.out.xcell 1) (FR.out.hits OK.out.bare))
        have x4 := cellsB FR.out.fcell 1
        have BR := Lib.hid hbr
        clear hk hmem hbr
        cases hf : farL LL k with
        | none =>
          rw [hf] at cF
          clear hf hE
          go_wp2_with fail
          (with_reducible refine cF.out.mono ?_)
          rintro e w7 ⟨v7, rfl, rfl, hb7⟩
          have B7 := Lib.hid hb7
          clear hb7
          go_wp2_with fail
          go_roundg (NE.length - (j + 1))
          case measure => omega
          case rel => exact ⟨j + 1, rfl, by omega, by go_num, BR.out.trans (B7.out.mono BR.out.size)⟩
        | some d =>
          have hE2 := hE d hf
          rw [hf] at cF
          unfold near at hE2
          simp only [hitK] at hE2
          clear hf hE
          go_wp2_with fail
          (with_reducible refine cF.out.mono ?_)
          rintro e w7 ⟨v7, rfl, rfl, hb7⟩
          have t0 := below_cells hb7 (below_cells BR.out EE6.out.1)
          have t1 := below_cells hb7 (below_cells BR.out EE6.out.2.1)
          have t2 := below_cells hb7 (below_cells BR.out EE6.out.2.2)
          have cM := Lib.hid (refNearer k d y.id y.dist (.slice none 0 0) u4 w7)
          rw [hE2] at cM
          have B7 := Lib.hid hb7
          clear hb7 hE2
          go_wp2_with fail
          (with_reducible refine cM.out.mono ?_)
          rintro e w8 ⟨rfl, hb8⟩
          have B8 := Lib.hid hb8
          clear hb8
          go_wp2_with fail
          go_roundg (NE.length - (j + 1))
          case measure => omega
          case rel => exact ⟨j + 1, rfl, by omega, by go_num, BR.out.trans ((B7.out.trans (B8.out.mono B7.out.size)).mono BR.out.size)⟩
      · obtain rfl : j = NE.length := by omega
        have FIN := Lib.hid (show Below w.heap.size w wr from B1.out.trans ((F6.out.below hbr).old.mono hs12))
        clear hbr
        go_wp2_with fail
        go_ret
        exact ⟨rfl, FIN.out⟩
  | _ :: _ :: _, hl, _, _ => simp at hl

end Go.Proofs.Ytjnkiloomdeljaa

namespace Go.Proofs.Ytjnkiloomdeljaa
open Go.RowKit Go.ChangeMaps

/-- what a walk's bounds are -/
structure BoundW (N : List Int) (E : Eg) (L : List Hz) (most : Nat) (ks : List Int) (R : List Hz) (n : Nat) : Prop where
  len : R.length ≤ most
  count : n ≤ N.length
  sorted : Sorted R
  way : ∀ x ∈ R, ∃ s ∈ ks, x.id ∈ reachD N E s false
  first : ∀ s ∈ ks, ∀ d, farL L s = some d → ∃ x, R.head? = some x ∧ near (hitK s d) x = false

theorem boundW {N : List Int} {L : List Hz} {E : Eg} (ok : LayOk N L) (eg : Egs N E) {most : Nat} (hm : 1 ≤ most) (ks : List Int) : BoundW N E L most ks (resW L E most ks).1 (resW L E most ks).2 := by
  obtain ⟨s, V, h⟩ := endR (L := L) E hm ks
  have hl := h.list
  refine ⟨hl ▸ h.good.best.len, ?_, hl ▸ h.good.best.sorted, fun x hx => ?_, fun a ha d hd => ?_⟩
  · rw [← h.count]
    refine nodup_len h.seen.once fun k hk => ?_
    obtain ⟨a, ha, h1, h2, h3⟩ := h.seen.way k (h.seen.sub k hk)
    exact (far_in ok k).1 h2
  · rw [← hl] at hx
    obtain ⟨a, ha, h1, -, h3⟩ := h.seen.way x.id (h.good.idl x hx)
    exact ⟨a, ha, (mem_reachD eg).2 ⟨(far_in ok a).1 h1, h3.mono fun a b hb => (near_adj eg a b).1 hb⟩⟩
  · rw [← hl]
    exact h.seen.first a (h.begun a ha (by rw [hd]; rfl)) d hd

def anyR (N : List Int) (E : Eg) (k : Int) (ks : List Int) : Bool := ks.any fun s => (reachD N E s false).any fun x => x == k

theorem anyR_snoc (N : List Int) (E : Eg) (k : Int) (ks : List Int) (j : Nat) (hj : j < ks.length) : anyR N E k (ks.take (j + 1)) = (anyR N E k (ks.take j) || (reachD N E ks[j] false).any fun x => x == k) := by
  unfold anyR
  rw [List.take_succ_eq_append_getElem hj, List.any_append]
  simp

theorem anyR_of {N : List Int} {E : Eg} {k : Int} {ks : List Int} (h : ∃ s ∈ ks, k ∈ reachD N E s false) : anyR N E k ks = true := by
  obtain ⟨s, hs, hk⟩ := h
  unfold anyR
  rw [List.any_eq_true]
  exact ⟨s, hs, by rw [List.any_eq_true]; exact ⟨k, hk, by simp⟩⟩

set_option maxRecDepth 100000 in
set_option maxHeartbeats 8000000 in
theorem walkBounds (w : World) (F : Nat → Prop) (l : List Hz) (v : Value) (h : HitsF w F v l) (es : List (Int × Int)) (ev : Value) (he : PairsA w ev es) (ef : Int) (hef : 0 ≤ ef ∧ ef ≤ 255) (fr : List Int) (fv : Value) (hf : Nums w .u64 fv fr) :
    Law 6 #[v, ev, .int .u8 ef, fv] w := by
  have cA := Lib.hid (awake10 w)
  have HLL := Lib.hid h
  have HEE := Lib.hid he
  clear h he
  go_enter Try.func6, Try.ntmps6
  go_wp2_with fail
  (with_reducible refine cA.out.mono ?_)
  rintro e w1 ⟨rfl, hb1⟩
  have cL := Lib.hid (lawLay w1 F l v (HLL.out.below hb1) es ev (HEE.out.below hb1))
  have B1 := Lib.hid hb1
  clear hb1
  go_wp2_with fail
  (with_reducible refine cL.out.mono ?_)
  rintro e w2 ⟨f, x, p, m, c, Q, lv, rfl, hF⟩
  have OK := Lib.hid (layN_ok l)
  have LE := Lib.hid (layE_len (layN l).1 es)
  obtain ⟨NN, hNN⟩ : ∃ N, N = (layN l).1 := ⟨_, rfl⟩
  obtain ⟨LL, hLL⟩ : ∃ L, L = (layN l).2 := ⟨_, rfl⟩
  obtain ⟨EE, hEE⟩ : ∃ E, E = layE (layN l).1 es := ⟨_, rfl⟩
  rw [← hEE] at hF LE
  rw [← hNN, ← hLL] at hF OK
  have F2 := Lib.hid hF
  have hs12 := B1.out.size
  clear hNN hLL hEE hF
  have NF2 := Lib.hid (hf.below (B1.out.trans (F2.out.old.mono hs12)))
  obtain ⟨fp, fc, hfv, hcap, hbig, -, -⟩ := id NF2.out.slice
  replace hfv : fv = .slice fp fr.length fc := hfv
  subst hfv
  obtain ⟨mm, hmm⟩ : ∃ mm : Nat, (mm : Int) = min (fr.length : Int) 5 := ⟨(min (fr.length : Int) 5).toNat, by omega⟩
  have hmx : mm ≤ fr.length := by omega
  have hm5 : mm ≤ 5 := by omega
  have SRC := src_takeU NF2.out mm hmx 37
  obtain ⟨q, k, c3, w3, hrun, hown, hg, -⟩ := run_app rowU64R (own_empty w2 w2.heap.size 37 1 (Nat.le_refl _)) (by simp) SRC intu_one (by simp [maxLen]; omega) (by omega)
  obtain rfl : mm = k := ((own_len hown).trans (Nat.zero_add mm)).symm
  have hb3 : Below w2.heap.size w2 w3 := ((Below.refl _ w2).alloc (Nat.le_refl _) _).grown hg (by simp) (by simp [Value.ownBlock])
  have e5 : fr.take mm = fr.take 5 := by
    by_cases h : fr.length ≤ 5
    · rw [List.take_of_length_le (by omega), List.take_of_length_le (by omega)]
    · congr 1; omega
  have hlen : (fr.take mm).length = mm := by simp; omega
  have K3 : Nums w3 .u64 (.slice q mm c3) (fr.take 5) ∧ ∀ b, (Value.slice q mm c3).ownBlock = some b → w2.heap.size ≤ b ∧ b < w3.heap.size := by
    refine ⟨?_, fun b hb => hown.lt b hb⟩
    rw [← e5]
    exact Nums.of_own (by simpa using hown)
  have hmn : ∀ w : World, (Builtin.min_ #[3, 3] 3 #[.int .i64 fr.length, .int .i64 5]).run Try.prog w = .ok (.int .i64 mm) w := by
    intro w
    simp [Builtin.min_, Builtin.min2, hmm]
    split <;> omega
  have hm0 : (0 : Int) ≤ mm ∧ (mm : Int) ≤ fc := by omega
  have htn : ((mm : Nat) : Int).toNat = mm := Int.toNat_natCast _
  have KK := Lib.hid K3
  have F3 := Lib.hid (F2.out.below hb3)
  have B3 := Lib.hid hb3
  clear hown hg SRC e5 hlen hmm K3 hb3
  go_wp2_with (with_reducible refine wpList_append_eq hrun rfl _ _ rfl rfl rfl ?_)
  have hfew := OK.out.few
  obtain ⟨most, hmost⟩ : ∃ most : Nat, (most : Int) = 1 + ef % 20 := ⟨1 + (ef % 20).toNat, by omega⟩
  have cW := Lib.hid (F3.out.walks OK.out most (by omega) _ _ KK.out.1 fun b hb _ => (KK.out.2 b hb).2)
  have hB := boundW OK.out F3.out.gs.gp.rel.egs (most := most) (by omega) (fr.take 5)
  obtain ⟨LR, hLR⟩ : ∃ L, L = (resW LL EE most (fr.take 5)).1 := ⟨_, rfl⟩
  obtain ⟨nR, hnR⟩ : ∃ n, n = (resW LL EE most (fr.take 5)).2 := ⟨_, rfl⟩
  rw [← hLR, ← hnR] at cW hB
  have HB := Lib.hid hB
  have FK := Lib.hid (show (fr.take 5).length = mm from by have := KK.out.1; obtain ⟨p1, c1, e1, -⟩ := this.slice; obtain ⟨-, h2, -⟩ := Value.slice.inj e1; omega)
  rw [← hmost]
  have hmost2 : 1 ≤ most ∧ most ≤ 20 := by omega
  obtain ⟨fr5, hfr5⟩ : ∃ l, l = fr.take 5 := ⟨_, rfl⟩
  rw [← hfr5] at KK HB FK
  obtain rfl : fr5.length = mm := FK.out
  have hb1 : ¬ (most : Int) < LR.length := by have := HB.out.len; omega
  have hb2 : ¬ (NN.length : Int) < nR := by have := HB.out.count; omega
  have hb1' := HB.out.len
  have hb2' := HB.out.count
  clear hmost hef hLR hnR hB hfr5
  (with_reducible refine cW.out.mono ?_)
  intro e w4 hT
  obtain ⟨v4, rfl, hG, hb4⟩ := hT.got
  obtain ⟨p4, c4, rfl, -, -, -, -⟩ := id hG
  have G4 := Lib.hid hG
  have K4 := Lib.hid (KK.out.1.below hb4)
  have F4 := Lib.hid (F3.out.below hb4)
  have f0 := cellsB F4.out.fcell 0
  have cLen := Lib.hid F4.out.gs.gp.length
  clear hT hG hb4
  go_wp2_with fail
  (with_reducible refine cLen.out.mono ?_)
  rintro e w4' ⟨rfl, rfl⟩
  clear f0
  have d1 : decide (most < LR.length) = false := by rw [decide_eq_false_iff_not]; omega
  have d2 : decide (NN.length < nR) = false := by rw [decide_eq_false_iff_not]; omega
  go_wp2_with fail
  try simp only [d1, d2, Bool.or_self]
  go_loopg [63] LR.length (fun q' i wr => ∃ j : Nat, q' = LR.length - j ∧ j ≤ LR.length ∧ i = .int .i64 j ∧ Below w4'.heap.size w4' wr)
  case atStart => exact ⟨0, rfl, by omega, rfl, Below.refl _ _⟩
  case round =>
    obtain ⟨j, rfl, hj, rfl, hbr⟩ := hrel
    obtain ⟨wo, rfl⟩ : ∃ wo : World, wo = wr := ⟨_, rfl⟩
    by_cases hlt : j < LR.length
    · have hRows := (G4.out.below hbr).rows
      obtain ⟨rs2, -, -, hel2⟩ := hRows
      have HE2 := Lib.hid hel2
      obtain ⟨bb, ob, up, uc, -, rfl, -, -, e0, e1, e2, -, -⟩ := hel2 j hlt
      have ANY := Lib.hid (anyR_of (HB.out.way LR[j] (List.getElem_mem hlt)))
      have PREV := Lib.hid (fun (t : Nat) (ht : t < LR.length) (e : t < j) => List.pairwise_iff_getElem.1 HB.out.sorted t j ht hlt e)
      obtain ⟨y, hy⟩ : ∃ y, y = LR[j] := ⟨_, rfl⟩
      rw [← hy] at e0 e1 e2 ANY PREV
      obtain ⟨nv, hnv⟩ : ∃ v, v = y.vec.length := ⟨_, rfl⟩
      rw [← hnv] at e2
      have BR := Lib.hid hbr
      obtain ⟨W2, hW2⟩ : ∃ W2, W2 = wo.alloc (.cells #[.int .u64 y.id, .int .u64 y.dist, .slice up nv uc] 43) := ⟨_, rfl⟩
      have hb2 : Below wo.heap.size wo W2 := by rw [hW2]; exact (Below.refl _ _).alloc (Nat.le_refl _) _
      have y2 : W2.heap[wo.heap.size]? = some (.cells #[.int .u64 y.id, .int .u64 y.dist, .slice up nv uc] 43 (0, 0)) := by rw [hW2]; exact heap_alloc_new _ _
      have B2 := Lib.hid (hbr.trans (hb2.mono hbr.size))
      have B2r := Lib.hid hb2
      have E2 := Lib.hid (And.intro (below_cells hb2 e0) (And.intro (below_cells hb2 e1) (below_cells hb2 e2)))
      have fp := F3.out
      clear hel2 hy hnv hbr fp
      have h563 : fr5.length ≤ 9223372036854775807 := by omega
      go_wp2_with fail
      rw [← hW2]
      obtain ⟨g, hg⟩ : ∃ g, g = wo.heap.size := ⟨_, rfl⟩
      rw [← hg] at y2 ⊢
      have Y2 := Lib.hid (And.intro (cellsB y2 0) (And.intro (cellsB y2 1) (cellsB y2 2)))
      clear hW2 hb2 hg y2 e0 e1 e2
      go_loopg [15, 70] fr5.length (fun q' ok i ws => ∃ (t : Nat) (b : Bool), q' = fr5.length - t ∧ t ≤ fr5.length ∧ ok = .bool b ∧ i = .int .i64 t ∧ b = anyR NN EE y.id (fr5.take t) ∧ Below W2.heap.size W2 ws)
      case atStart => exact ⟨0, false, rfl, by omega, rfl, rfl, by simp [anyR], Below.refl _ _⟩
      case round =>
        obtain ⟨t, b, rfl, ht, rfl, rfl, hb, hbs⟩ := hrel
        by_cases hlt2 : t < fr5.length
        · have BS := Lib.hid (B2.out.trans (hbs.mono B2.out.size))
          obtain ⟨b5, o5, hq, e5⟩ := (K4.out.below BS.out).elem hlt2
          subst hq
          have hst := anyR_snoc NN EE y.id fr5 t hlt2
          obtain ⟨k, hk⟩ : ∃ k, k = fr5[t] := ⟨_, rfl⟩
          rw [← hk] at e5 hst
          have ST := Lib.hid hst
          have HBB := Lib.hid hb
          have F5 := Lib.hid (F4.out.below BS.out)
          have cR := Lib.hid (F5.out.gs.dreachW (by have := LE.out; omega) k false)
          have hRL := reachD_len F5.out.gs.gp.rel.egs k false
          obtain ⟨RE, hRE⟩ : ∃ R, R = reachD NN EE k false := ⟨_, rfl⟩
          rw [← hRE] at cR ST hRL
          have x4 := cellsB F5.out.fcell 1
          have x0 := cellsB F5.out.xcell 0
          have YS := Lib.hid (below_cells hbs Y2.out.1)
          have BS2 := Lib.hid hbs
          have hr63 : RE.length ≤ 9223372036854775807 := by omega
          clear hk hst hb hRE hbs
          go_wp2_with fail
          (with_reducible refine cR.out.mono ?_)
          rintro e w6 ⟨v6, rfl, ho6, hb6⟩
          obtain ⟨rp, rc, rfl, -, -, -, -⟩ := (Nums.of_own ho6).slice
          have N6 := Lib.hid (Nums.of_own ho6)
          have B6 := Lib.hid hb6
          clear ho6 hb6 x4 x0 e5
          go_wp2_with fail
          go_loopg [15, 84] RE.length (fun q' ok i wt => ∃ (u : Nat) (b2 : Bool), q' = RE.length - u ∧ u ≤ RE.length ∧ ok = .bool b2 ∧ i = .int .i64 u ∧ b2 = (b || (RE.take u).any fun x => x == y.id) ∧ Below w6.heap.size w6 wt)
          case atStart => exact ⟨0, b, rfl, by omega, rfl, rfl, by simp, Below.refl _ _⟩
          case round =>
            obtain ⟨u, b2, rfl, hu, rfl, rfl, hb2, hbt⟩ := hrel
            by_cases hlt3 : u < RE.length
            · obtain ⟨b6, o6, rfl, e6⟩ := (N6.out.below hbt).elem hlt3
              have e7 := below_cells hbt (below_cells B6.out YS.out)
              have hst2 : ((RE.take (u + 1)).any fun x => x == y.id) = (((RE.take u).any fun x => x == y.id) || (RE[u] == y.id)) := by
                rw [List.take_succ_eq_append_getElem hlt3, List.any_append]; simp
              obtain ⟨z, hz⟩ : ∃ z, z = RE[u] := ⟨_, rfl⟩
              rw [← hz] at e6 hst2
              have S2 := Lib.hid hst2
              have H2 := Lib.hid hb2
              have BT := Lib.hid hbt
              clear hz hst2 hb2 hbt
              cases b2 with
              | true =>
                go_wp2_with fail
                go_roundg (RE.length - (u + 1))
                case measure => omega
                case rel => exact ⟨u + 1, true, rfl, by omega, rfl, by go_num, by rw [S2.out, ← Bool.or_assoc, ← H2.out]; rfl, BT.out⟩
              | false =>
                go_wp2_with fail
                go_roundg (RE.length - (u + 1))
                case measure => omega
                case rel => exact ⟨u + 1, _, rfl, by omega, rfl, by go_num, by rw [S2.out, ← Bool.or_assoc, ← H2.out]; simp, BT.out⟩
            · obtain rfl : u = RE.length := by omega
              rw [List.take_length] at hb2
              have H2 := Lib.hid hb2
              have BT := Lib.hid hbt
              clear hb2 hbt
              go_wp2_with fail
              go_roundg (fr5.length - (t + 1))
              case measure => omega
              case rel => exact ⟨t + 1, b2, rfl, by omega, rfl, by go_num, by rw [ST.out, H2.out, ← HBB.out], BS2.out.trans ((B6.out.trans (BT.out.mono B6.out.size)).mono BS2.out.size)⟩
        · obtain rfl : t = fr5.length := by omega
          rw [List.take_length, ANY.out] at hb
          subst hb
          have BS := Lib.hid (B2.out.trans (hbs.mono B2.out.size))
          have BS2 := Lib.hid hbs
          have YC := Lib.hid (And.intro (below_cells hbs Y2.out.1) (And.intro (below_cells hbs Y2.out.2.1) (below_cells hbs Y2.out.2.2)))
          clear hbs
          obtain ⟨W7, hW7⟩ : ∃ W7, W7 = wr.drew := ⟨_, rfl⟩
          have hb7 : Below wr.heap.size wr W7 := by rw [hW7]; exact (Below.refl _ _).drew
          have B7 := Lib.hid (BS.out.trans (hb7.mono BS.out.size))
          have HW := Lib.hid hW7
          match j, hj, hlt, PREV with
          | 0, _, _, _ =>
            clear hW7 hb7
            go_upto_region 22 with fail
            refine region_go (fun _ => True) (by kernel_rfl) ?hS0 (fun hH => ?_)
            case hS0 =>
              trivial
            rw [← HW.out]
            refine kY 0 hH ?_
            repeat simp only [Act.put, uA1, uB1, uC1]
            refine kY 1 hH ?_
            repeat simp only [Act.put, uA1, uB1, uC1]
            refine kY 2 hH ?_
            repeat simp only [Act.put, uA1, uB1, uC1]
            refine kY 3 hH ?_
            repeat simp only [Act.put, uA1, uB1, uC1]
            refine kY 4 hH ?_
            repeat simp only [Act.put, uA1, uB1, uC1]
            refine kY 5 hH ?_
            repeat simp only [Act.put, uA1, uB1, uC1]
            refine kN 6 hH ?_
            repeat simp only [Act.put, uA1, uB1, uC1]
            refine kN 7 hH ?_
            repeat simp only [Act.put, uA1, uB1, uC1]
            refine kN 8 hH ?_
            repeat simp only [Act.put, uA1, uB1, uC1]
            refine kN 9 hH ?_
            repeat simp only [Act.put, uA1, uB1, uC1]
            refine kN 10 hH ?_
            repeat simp only [Act.put, uA1, uB1, uC1]
            refine kN 11 hH ?_
            repeat simp only [Act.put, uA1, uB1, uC1]
            refine kN 12 hH ?_
            repeat simp only [Act.put, uA1, uB1, uC1]
            refine kN 13 hH ?_
            repeat simp only [Act.put, uA1, uB1, uC1]
            refine kY 14 hH ?_
            repeat simp only [Act.put, uA1, uB1, uC1]
            refine kY 15 hH ?_
            repeat simp only [Act.put, uA1, uB1, uC1]
            refine wpAnyH_done (by decide +kernel) ?_ _
            clear hH
            go_wp2_with fail
            go_roundg (LR.length - 1)
            case measure => omega
            case rel => exact ⟨1, rfl, by omega, by go_num, B7.out⟩
          | t + 1, hj, hlt, PREV =>
            have htl : t < LR.length := by omega
            obtain ⟨b9, o9, up9, uc9, -, hp9, -, -, d0, d1', d2', -, -⟩ := HE2.out t htl
            obtain ⟨rfl, rfl⟩ : bb = b9 ∧ ob = o9 := by simpa using hp9
            have NB := PREV.out t htl (Nat.lt_succ_self t)
            obtain ⟨z, hz⟩ : ∃ z, z = LR[t] := ⟨_, rfl⟩
            rw [← hz] at d0 d1' d2' NB
            obtain ⟨nz, hnz⟩ : ∃ v, v = z.vec.length := ⟨_, rfl⟩
            rw [← hnz] at d2'
            have NB2 := Lib.hid (show nearB z.id z.dist y.id y.dist = true from NB)
            have I7 := Lib.hid (show W7.cell? ⟨bb, ob + t * 3, none⟩ = some (.int .u64 z.id) ∧ W7.cell? ⟨bb, ob + t * 3 + 1, none⟩ = some (.int .u64 z.dist) ∧ W7.cell? ⟨bb, ob + t * 3 + 1 + 1, none⟩ = some (.slice up9 nz uc9) ∧ W7.cell? ⟨g, 0, none⟩ = some (.int .u64 y.id) ∧ W7.cell? ⟨g, 1, none⟩ = some (.int .u64 y.dist) ∧ W7.cell? ⟨g, 2, none⟩ = some (.slice up nv uc) from by
              have bx : Below wo.heap.size wo W7 := (B2r.out.trans (BS2.out.mono B2r.out.size)).trans (hb7.mono (Nat.le_trans B2r.out.size BS2.out.size))
              exact ⟨below_cells bx d0, below_cells bx d1', below_cells bx d2', below_cells hb7 YC.out.1, below_cells hb7 YC.out.2.1, below_cells hb7 YC.out.2.2⟩)
            have hw1 : IntKind.i64.wrap (((t + 1 : Nat) : Int) - 1) = (t : Int) := by rw [IntWalk.i64_in _ (by omega)]; omega
            have hw2 : IntKind.i64.wrap ((t : Int) + 1 - 1) = (t : Int) := by rw [IntWalk.i64_in _ (by omega)]; omega
            have hw3 : IntKind.i64.wrap (t : Int) = (t : Int) := IntWalk.i64_in _ (by omega)
            have hg1 : (0 : Int) < ((t + 1 : Nat) : Int) := by omega
            have hg2 : (0 : Int) < (t : Int) + 1 := by omega
            have hg3 : (0 : Int) ≤ (t : Int) ∧ (t : Int) < LR.length := by omega
            have htn : ((t : Nat) : Int).toNat = t := Int.toNat_natCast _
            clear hW7 hb7 d0 d1' d2' NB hz hnz hp9 PREV
            go_upto_region 22 with fail
            refine region_go (fun w' => w'.cell? ⟨bb, ob + t * 3, none⟩ = some (.int .u64 z.id) ∧ w'.cell? ⟨bb, ob + t * 3 + 1, none⟩ = some (.int .u64 z.dist) ∧ w'.cell? ⟨bb, ob + t * 3 + 1 + 1, none⟩ = some (.slice up9 nz uc9) ∧ w'.cell? ⟨g, 0, none⟩ = some (.int .u64 y.id) ∧ w'.cell? ⟨g, 1, none⟩ = some (.int .u64 y.dist) ∧ w'.cell? ⟨g, 2, none⟩ = some (.slice up nv uc)) (by kernel_rfl) ?hS0 (fun hH => ?_)
            case hS0 =>
              rw [← HW.out]; exact I7.out
            rw [← HW.out] at hH ⊢
            refine kY 0 hH ?_
            repeat simp only [Act.put, uA1, uB1, uC1]
            refine kY 1 hH ?_
            repeat simp only [Act.put, uA1, uB1, uC1]
            refine kY 2 hH ?_
            repeat simp only [Act.put, uA1, uB1, uC1]
            refine kY 3 hH ?_
            repeat simp only [Act.put, uA1, uB1, uC1]
            refine kY 4 hH ?_
            repeat simp only [Act.put, uA1, uB1, uC1]
            refine kY 5 hH ?_
            repeat simp only [Act.put, uA1, uB1, uC1]
            refine kY 6 hH ?_
            repeat simp only [Act.put, uA1, uB1, uC1]
            refine kY 7 hH ?_
            repeat simp only [Act.put, uA1, uB1, uC1]
            refine kY 8 hH ?_
            repeat simp only [Act.put, uA1, uB1, uC1]
            refine kY 9 hH ?_
            repeat simp only [Act.put, uA1, uB1, uC1]
            refine kY 10 hH ?_
            repeat simp only [Act.put, uA1, uB1, uC1]
            refine kY 11 hH ?_
            repeat simp only [Act.put, uA1, uB1, uC1]
            refine spk 12 rfl (by decide +kernel) (by rfl) (fun K' hK => ?_)
            go_simp
            refine (refNearer z.id z.dist y.id y.dist _ _ _).mono ?_
            rintro e w8 ⟨rfl, hb8⟩
            try dsimp only
            refine hK.out _ _ ?hS (fun hH' => ?_)
            case hS =>
              exact ⟨below_cells hb8 hH.1, below_cells hb8 hH.2.1, below_cells hb8 hH.2.2.1, below_cells hb8 hH.2.2.2.1, below_cells hb8 hH.2.2.2.2.1, below_cells hb8 hH.2.2.2.2.2⟩
            clear hK K' hH; have hH := hH'; clear hH'; repeat simp only [Act.put, uA1, uB1, uC1]
            refine kY 13 hH ?_
            repeat simp only [Act.put, uA1, uB1, uC1]
            refine kY 14 hH ?_
            repeat simp only [Act.put, uA1, uB1, uC1]
            refine kY 15 hH ?_
            repeat simp only [Act.put, uA1, uB1, uC1]
            refine wpAnyH_done (by decide +kernel) ?_ _
            have B8 := Lib.hid (B7.out.trans (hb8.mono B7.out.size))
            clear hH hb8
            rw [NB2.out]
            go_wp2_with fail
            go_roundg (LR.length - (t + 1 + 1))
            case measure => omega
            case rel => exact ⟨t + 1 + 1, rfl, by omega, by go_num, B8.out⟩
    · have BR := Lib.hid hbr
      clear hbr
      have h563 : fr5.length ≤ 9223372036854775807 := by omega
      go_wp2_with fail
      go_loopg [116] fr5.length (fun q' i ws => ∃ (t : Nat), q' = fr5.length - t ∧ t ≤ fr5.length ∧ i = .int .i64 t ∧ Below wo.heap.size wo ws)
      case atStart => exact ⟨0, rfl, by omega, rfl, Below.refl _ _⟩
      case round =>
        obtain ⟨t, rfl, ht, rfl, hbs⟩ := hrel
        have BS := Lib.hid (BR.out.trans (hbs.mono BR.out.size))
        have BS2 := Lib.hid hbs
        clear hbs
        by_cases hlt2 : t < fr5.length
        · obtain ⟨b5, o5, hq, e5⟩ := (K4.out.below BS.out).elem hlt2
          subst hq
          have FST := HB.out.first fr5[t] (List.getElem_mem hlt2)
          obtain ⟨k, hk⟩ : ∃ k, k = fr5[t] := ⟨_, rfl⟩
          rw [← hk] at e5 FST
          have F5 := Lib.hid (F4.out.below BS.out)
          have cF := Lib.hid (refFar wr x lv _ LL k (cellsB F5.out.xcell 1) (F5.out.hits OK.out.bare))
          have x4 := cellsB F5.out.fcell 1
          clear hk
          cases hf : farL LL k with
          | none =>
            rw [hf] at cF
            clear hf FST
            go_wp2_with fail
            (with_reducible refine cF.out.mono ?_)
            rintro e w7 ⟨v7, rfl, rfl, hb7⟩
            have B7 := Lib.hid hb7
            clear hb7
            go_wp2_with fail
            go_roundg (fr5.length - (t + 1))
            case measure => omega
            case rel => exact ⟨t + 1, rfl, by omega, by go_num, BS2.out.trans (B7.out.mono BS2.out.size)⟩
          | some d =>
            rw [hf] at cF
            obtain ⟨y, hy, hn⟩ := FST d hf
            have hpos : 0 < LR.length := by
              cases LR with
              | nil => cases hy
              | cons a L => simp
            obtain ⟨rs2, -, -, hel2⟩ := (G4.out.below BS.out).rows
            obtain ⟨bb, ob, up, uc, -, hp4, -, -, e0, e1, e2, -, -⟩ := hel2 0 hpos
            have hy0 : LR[0] = y := by
              cases LR with
              | nil => cases hy
              | cons a L => simpa using hy
            rw [hy0] at e0 e1 e2
            obtain ⟨nv, hnv⟩ : ∃ v, v = y.vec.length := ⟨_, rfl⟩
            rw [← hnv] at e2
            subst hp4
            unfold near at hn
            simp only [hitK] at hn
            rw [Nat.zero_mul, Nat.add_zero] at e0 e1 e2
            have hl0 : ¬ LR.length = 0 := by omega
            have hl1 : ¬ (LR.length : Int) = 0 := by omega
            have E0 := Lib.hid (And.intro e0 (And.intro e1 e2))
            have HN := Lib.hid hn
            clear hf FST hy hy0 hel2 e0 e1 e2 hnv hn
            go_wp2_with fail
            (with_reducible refine cF.out.mono ?_)
            rintro e w7 ⟨v7, rfl, rfl, hb7⟩
            have t0 := below_cells hb7 E0.out.1
            have t1 := below_cells hb7 E0.out.2.1
            have t2 := below_cells hb7 E0.out.2.2
            have cM := Lib.hid (refNearer k d y.id y.dist (.slice none 0 0) (.slice up nv uc) w7)
            rw [HN.out] at cM
            have B7 := Lib.hid hb7
            clear hb7
            go_wp2_with fail
            (with_reducible refine cM.out.mono ?_)
            rintro e w8 ⟨rfl, hb8⟩
            have B8 := Lib.hid hb8
            clear hb8
            go_wp2_with fail
            go_roundg (fr5.length - (t + 1))
            case measure => omega
            case rel => exact ⟨t + 1, rfl, by omega, by go_num, BS2.out.trans ((B7.out.trans (B8.out.mono B7.out.size)).mono BS2.out.size)⟩
        · have FIN := Lib.hid (show Below w.heap.size w wr from B1.out.trans ((F4.out.below BS.out).old.mono hs12))
          go_wp2_with fail
          go_ret
          exact ⟨rfl, FIN.out⟩

end Go.Proofs.Ytjnkiloomdeljaa

namespace Go.Proofs.Ytjnkiloomdeljaa
open Go.ChangeShapes Go.WideShapes Go.ChangeAt Go.RowKit Go.Deep

section
variable {H : Type} {enc : TypeId × Value → H} {W : World}

theorem cells_twoP {a : Addr} {cs : List Value} (h : W.cells? 0 a 2 = some cs) : ∃ c0 c1, cs = [c0, c1] ∧ W.cell? (a.add 0) = some c0 ∧ W.cell? (a.add 1) = some c1 := by
  unfold World.cells? at h
  simp only [Nat.zero_le, if_true, List.range_succ, List.range_zero, List.nil_append, List.cons_append, List.mapM_cons, List.mapM_nil] at h
  cases h0 : W.cell? (a.add 0) with
  | none => rw [h0] at h; simp at h
  | some c0 =>
    cases h1 : W.cell? (a.add 1) with
    | none => rw [h0, h1] at h; simp at h
    | some c1 =>
      rw [h0, h1] at h
      simp at h
      exact ⟨c0, c1, h.symm, rfl, rfl⟩

set_option maxRecDepth 100000 in
/-- an argument that is a slice of pairs -/
theorem open_pairs {base : Nat} {v : Value} {d : DataW H} {ps : List MemPlace}
    (hok : Value.okWide Try.prog W .any base 23 v) (h : DataW.Trod enc Try.prog W 0 (fun _ => true) true 23 v d ps) :
    ∃ l, PairsA W v l := by
  obtain ⟨a0, len0, cap0, rfl⟩ := okWide_slice Try.underlying23 hok
  obtain ⟨fuel, hf⟩ := h
  have hce : Try.prog.cellsOf 56 = 2 := by kernel_rfl
  have hcu : Try.prog.cellsOf 37 = 1 := by kernel_rfl
  rcases open_slice Try.underlying23 hf with ⟨hcs, _⟩ | ⟨a, len, cap, m, n, D, Pl, hcs, _, hl, hm, hmm, _, hel⟩
  · simp [Value.cells] at hcs
    obtain ⟨rfl, rfl, rfl⟩ := hcs
    exact ⟨[], none, 0, rfl, by simp, fun i hi => absurd hi (by simp)⟩
  · simp only [if_true] at hmm
    subst hmm
    rw [hce] at hel
    have each : ∀ i, i < len → ∃ r : Int × Int, W.cell? (a.add (i * 2)) = some (.int .u64 r.1) ∧ W.cell? (a.add (i * 2 + 1)) = some (.int .u64 r.2) := by
      intro i hi
      obtain ⟨cs', hcs', htr⟩ := hel i (by omega)
      obtain ⟨c0, c1, rfl, g0, g1⟩ := cells_twoP hcs'
      obtain ⟨xs, m', _, _, _, hxl, hx⟩ := DataW.trod_array Try.underlying56 htr
      have t0 := hx 0 (by omega)
      have t1 := hx 1 (by omega)
      rw [hcu, List.getElem?_eq_getElem (by omega)] at t0 t1
      obtain ⟨z0, q0, _, w0⟩ := DataW.trod_int Try.underlying37 t0
      obtain ⟨z1, q1, _, w1⟩ := DataW.trod_int Try.underlying37 t1
      simp at q0 q1
      subst q0 q1
      rw [add_add] at g0 g1
      exact ⟨(z0, z1), by simpa using g0, g1⟩
    obtain ⟨l, hll, hp⟩ := exists_list len each
    simp [Value.cells] at hcs
    obtain ⟨rfl, rfl, rfl⟩ := hcs
    refine ⟨l, some a, cap0, by rw [hll], by simp [maxLen] at hm; omega, fun i hi => ?_⟩
    obtain ⟨g0, g1⟩ := hp i hi
    have h00 := (hp 0 (by omega)).1
    obtain ⟨b, off, spot⟩ := a
    obtain rfl : spot = none := by
      simpa [Addr.add] using World.cell?_spot h00
    rw [Addr.add_lit] at g0 g1
    exact ⟨b, off, rfl, g0, by rw [Nat.add_assoc]; exact g1⟩
end

end Go.Proofs.Ytjnkiloomdeljaa
