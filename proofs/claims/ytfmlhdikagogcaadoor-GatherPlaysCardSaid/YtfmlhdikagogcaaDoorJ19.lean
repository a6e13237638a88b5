/-
  gather: a question is under way no more.
  Which shard's an ID is.
  note: what a kind's fields say of a right note.
  gather: what a call leaves; what Ask answers; a question is put to the row.
  best's law: the document's example.
  best's law: BestMany.
  best: lists are merged.
  best, the plain law: of hits with IDs of their own the nearest few are the first of all in order.
  best's law: BestTwice.
-/
import Derived.Test.YtfmlhdikagogcaaDoorJ18
import Derived.Test.YtfmlhdikagogcaaDoorJ01
import Derived.Test.YtfmlhdikagogcaaDoorJ14
import Derived.Test.YtfmlhdikagogcaaDoorJ09
namespace Go.Proofs.YtfmlhdikagogcaaDoor
open Go.RowKit
set_option maxRecDepth 20000

theorem zeroPtr (w : World) : (zeroValue 82).run Tryd.prog w = .ok (.pointer none) w := by kernel_rfl

/-- clear(s) of one pointer -/
theorem run_clearP {w : World} {base g n cap o : Nat} {xs : List Value} (h : w.ownsRow base 82 1 (.slice (some ⟨g, 0, none⟩) n cap) n xs) (ho : o + 1 ≤ cap) (c ty : Nat) :
    (Builtin.clear_ #[78] ty #[.slice (some ⟨g, o, none⟩) 1 c]).run Tryd.prog w = .ok (.tuple #[]) (w.setCells g o [.pointer none]) := by
  obtain ⟨_, _, cur, hh, hs⟩ := own_cap h
  have hst := run_storeCells_cells (P := Tryd.prog) g o [.pointer none] 0 w (fun j hj => by
    have : o + j < cur.size := by simp at hj; omega
    simp [World.cell?, hh, this]) (fun j hj => by simp [World.frozen?, hh]) (by simp [Value.oneCell'])
  simp only [Nat.add_zero] at hst
  have hz : (Builtin.zeroCells (Value.pointer none).cells 1).toList = [.pointer none] := by kernel_rfl
  simp [Builtin.clear_, run_underlying Tryd.underlying78, zeroPtr, hz, hst]

theorem oneOf {bs : List Nat} {k b0 : Nat} (hk : k < bs.length) (hb : bs[k] = b0) (hd : bs.Nodup) (j : Nat) (hj : j < bs.length) (hjk : j ≠ k) : bs[j] ≠ b0 := by
  intro e
  have hp := List.pairwise_iff_getElem.1 hd
  rcases Nat.lt_or_ge j k with h | h
  · exact hp j k hj hk h (e.trans hb.symm)
  · exact hp k j hk hj (by omega) (hb.trans e.symm)

/-- the row while one is being taken out -/
def midRow (xs : List Value) (k j : Nat) : List Value := (xs.eraseIdx k).take (j - 1) ++ xs.drop (j - 1)

theorem midRow_start (xs : List Value) (k : Nat) (hk : k < xs.length) : midRow xs k (k + 1) = xs := by
  unfold midRow
  rw [Nat.add_sub_cancel, List.eraseIdx_eq_take_drop_succ, List.take_append_of_le_length (by simp; omega), List.take_take, Nat.min_self, List.take_append_drop]

theorem midRow_length (xs : List Value) (k j : Nat) (hk : k < xs.length) (hj : k < j) (hj' : j ≤ xs.length) : (midRow xs k j).length = xs.length := by
  unfold midRow
  simp only [List.length_append, List.length_take, List.length_drop, List.length_eraseIdx_of_lt hk]
  omega

theorem midRow_get (xs : List Value) (k j : Nat) (hk : k < xs.length) (hj : k < j) (hj' : j < xs.length) : (midRow xs k j)[j]? = xs[j]? := by
  unfold midRow
  have h1 : ((xs.eraseIdx k).take (j - 1)).length = j - 1 := by rw [List.length_take, List.length_eraseIdx_of_lt hk]; omega
  rw [List.getElem?_append_right (by omega), h1, List.getElem?_drop]
  congr 1
  omega

theorem midRow_step (xs : List Value) (k j : Nat) (hk : k < xs.length) (hj : k < j) (hj' : j < xs.length) : (midRow xs k j).set (j - 1) xs[j] = midRow xs k (j + 1) := by
  unfold midRow
  have h1 : ((xs.eraseIdx k).take (j - 1)).length = j - 1 := by simp [List.length_eraseIdx_of_lt hk]; omega
  rw [List.set_append, if_neg (by omega), h1, Nat.sub_self]
  have h2 : xs.drop (j - 1) = xs[j - 1] :: xs.drop j := by
    have := List.drop_eq_getElem_cons (l := xs) (i := j - 1) (by omega)
    rw [this, show j - 1 + 1 = j by omega]
  rw [h2, List.set_cons_zero, Nat.add_sub_cancel]
  have h3 : (xs.eraseIdx k).take j = (xs.eraseIdx k).take (j - 1) ++ [xs[j]] := by
    have hl : j - 1 < (xs.eraseIdx k).length := by rw [List.length_eraseIdx_of_lt hk]; omega
    have := List.take_succ_eq_append_getElem hl
    rw [show j - 1 + 1 = j by omega] at this
    rw [this, List.getElem_eraseIdx_of_ge hl (by omega)]
    simp only [show j - 1 + 1 = j by omega]
  rw [h3]
  simp

theorem midRow_end (xs : List Value) (k : Nat) (hk : k < xs.length) : (midRow xs k xs.length).take (xs.length - 1) = xs.eraseIdx k := by
  unfold midRow
  rw [List.take_append_of_le_length (by simp [List.length_eraseIdx_of_lt hk])]
  rw [List.take_take, Nat.min_self, List.take_of_length_le (by rw [List.length_eraseIdx_of_lt hk]; omega)]

set_option maxHeartbeats 2000000 in
theorem deleteOver (b0 e0 g cap n1 k B : Nat) (bs : List Nat) (w : World) (hlen : bs.length = n1 + 1) (hn : n1 ≤ 100000) (hd : bs.Nodup) (hk : k < bs.length) (hbk : bs[k] = b0)
    (h : w.ownsRow B 82 1 (.slice (some ⟨g, 0, none⟩) (n1 + 1) cap) (n1 + 1) (bs.map ptrV)) (he : w.cell? ⟨e0, 0, none⟩ = some (ptrV b0)) (heg : e0 ≠ g) (hobj : ∀ b ∈ bs, b ≠ g ∧ ∃ ca ta, w.heap[b]? = some (.cells ca ta (0, 0))) :
    Calls Tryd.prog 58 #[.slice (some ⟨g, 0, none⟩) (n1 + 1) cap, .func (.func 59) #[] #[.pointer (some ⟨e0, 0, none⟩)]] w fun e w' =>
      e = .returned (.slice (some ⟨g, 0, none⟩) n1 cap) ∧ w'.ownsRow B 82 1 (.slice (some ⟨g, 0, none⟩) n1 cap) n1 ((bs.eraseIdx k).map ptrV) ∧ Mod (fun k => k = g) w w' := by
  obtain ⟨hcap, hmax, cur, hcur, hcs⟩ := own_cap h
  have hgl : g < w.heap.size := lt_block hcur
  have hb0 : b0 ∈ bs := by rw [← hbk]; exact List.getElem_mem hk
  have IX := Lib.hid (indexOver (.pointer (some ⟨e0, 0, none⟩)) (.slice (some ⟨g, 0, none⟩) (n1 + 1) cap) (fun a => decide (a = b0)) bs bs B w rfl (by omega) (by rw [hlen]; exact h) (fun i h1 h2 w' hb => by
    obtain ⟨-, ca, ta, ho⟩ := hobj bs[i] (List.getElem_mem h1)
    obtain ⟨-, cb, tb, ho'⟩ := hobj b0 hb0
    refine (over1 bs[i] b0 e0 w' (below_cells hb he) ⟨ca, ta, (hb.block _ (lt_block ho)).trans ho⟩ ⟨cb, tb, (hb.block _ (lt_block ho')).trans ho'⟩).mono ?_
    rintro e w'' ⟨rfl, rfl⟩
    exact ⟨rfl, Below.refl _ _⟩))
  have hpos : posG (fun a => decide (a = b0)) bs = k := posG_at hk (fun j h1 h2 => by simpa using oneOf hk hbk hd j h1 (by omega)) (by simp [hbk])
  rw [hpos] at IX
  have D := Lib.hid hd
  have BK := Lib.hid hbk
  have HW := Lib.hid h
  have HE := Lib.hid he
  have HO := Lib.hid hobj
  have hk1 : ((k : Int) == -1) = false := by rw [beq_eq_false_iff_ne]; omega
  have hk2 : k ≤ n1 := by omega
  have HL := Lib.hid hlen
  clear h hd hbk he hobj hpos hcur hcs hb0 hlen
  go_enter Tryd.func58, Tryd.ntmps58
  go_wp2_with fail
  refine IX.out.mono ?_
  rintro e w1 ⟨rfl, hb1⟩
  have B1 := Lib.hid hb1
  clear hb1
  go_wp2_with fail
  go_loopg [5, 6] (n1 + 1 - k) (fun q i j wr => ∃ m : Nat, q = n1 + 1 - m ∧ k ≤ m ∧ m ≤ n1 ∧ i = .int .i64 m ∧ j = .int .i64 ((m : Int) + 1) ∧ wr.ownsRow B 82 1 (.slice (some ⟨g, 0, none⟩) (n1 + 1) cap) (n1 + 1) (midRow (bs.map ptrV) k (m + 1)) ∧ Mod (fun k => k = g) w wr)
  case atStart =>
    refine ⟨k, rfl, Nat.le_refl _, hk2, rfl, rfl, ?_, Mod.of_below B1.out⟩
    rw [midRow_start _ _ (by simpa using hk)]
    exact own_below HW.out B1.out
  case round =>
    obtain ⟨m, rfl, hm1, hm2, rfl, rfl, hown, hmod⟩ := hrel
    have hb := HL.out
    have e1 : ((m : Int) + 1).toNat = m + 1 := by omega
    have e2 : (0 : Int) ≤ (m : Int) + 1 := by omega
    have hfr : ∀ j, wr.frozen? ⟨g, j, none⟩ = false := by
      obtain ⟨_, _, cur, hh, _⟩ := own_cap hown
      intro j; simp [World.frozen?, hh]
    by_cases hlt : m + 1 < n1 + 1
    · have hlb : m + 1 < bs.length := by omega
      have c0 : wr.cell? ⟨g, m + 1, none⟩ = some (.pointer (some ⟨bs[m + 1], 0, none⟩)) := by
        have := own_rangeAt hown rfl 0 (midRow (bs.map ptrV) k (m + 1)) (fun j u h => by simpa using h) (m + 1) (ptrV bs[m + 1]) (by
          rw [midRow_get _ _ _ (by simpa using hk) (by omega) (by simpa using hlb)]; simp [List.getElem?_eq_getElem hlb])
        simpa [ptrV] using this
      obtain ⟨u9, c9⟩ : ∃ u, wr.cell? ⟨g, m, none⟩ = some u := by
        have := (own_there hown rfl m 1 (by omega) 0 (by omega)).1
        simpa [Option.isSome_iff_exists] using this
      obtain ⟨hg0, ca, ta, ho⟩ := HO.out bs[m + 1] (List.getElem_mem hlb)
      obtain ⟨hg1, cb, tb, ho'⟩ := HO.out b0 (by rw [← BK.out]; exact List.getElem_mem hk)
      have A := Lib.hid (over1 bs[m + 1] b0 e0 wr (by rw [World.cell?_of_block (hmod.block e0 (lt_of_cell HE.out) heg)]; exact HE.out) ⟨ca, ta, (hmod.block _ (lt_block ho) hg0).trans ho⟩ ⟨cb, tb, (hmod.block _ (lt_block ho') hg1).trans ho'⟩)
      rw [decide_eq_false (oneOf hk BK.out D.out (m + 1) hlb (by omega))] at A
      unfold ptrV at A
      have ST := Lib.hid (own_setCell hown rfl (o := m) (by omega) (ptrV bs[m + 1]))
      have SM := Lib.hid (hmod.setCell (p := ⟨g, m, none⟩) (.inl rfl) (ptrV bs[m + 1]))
      have MS := Lib.hid (show (midRow (bs.map ptrV) k (m + 1)).set m (ptrV bs[m + 1]) = midRow (bs.map ptrV) k (m + 1 + 1) by have := midRow_step (bs.map ptrV) k (m + 1) (by simpa using hk) (by omega) (by simpa using hlb); simpa using this)
      have hf0 := hfr m
      clear hown hmod ho ho' hfr
      go_wp2_with fail
      refine A.out.mono ?_
      rintro e w2 ⟨rfl, rfl⟩
      go_wp2_with fail
      go_roundg (n1 + 1 - (m + 1))
      case measure => omega
      case rel => exact ⟨m + 1, rfl, by omega, by omega, by go_num, by go_num, by rw [← MS.out]; exact ST.out, SM.out⟩
    · obtain rfl : m = n1 := by omega
      have hx1 : ¬ cap = m := by omega
      have hcl := run_clearP (o := m) hown (by omega) (cap - m) 0
      have FIN := Lib.hid (And.intro (own_setCells_far [.pointer none] m wr _ (own_prefix hown (k := m) (by omega)) (by omega)) (mod_setCells hmod (.inl rfl) [.pointer none] m))
      have ME := Lib.hid (show (midRow (bs.map ptrV) k (m + 1)).take (m * 1) = (bs.eraseIdx k).map ptrV by have h1 := midRow_end (bs.map ptrV) k (by simpa using hk); rw [List.length_map, hb] at h1; rw [Nat.mul_one, List.eraseIdx_eq_take_drop_succ, List.map_append, List.map_take, List.map_drop, ← List.eraseIdx_eq_take_drop_succ]; exact h1)
      clear hown hmod hfr
      go_wp2_with fail
      go_ret
      exact ⟨rfl, by rw [← ME.out]; exact FIN.out.1, FIN.out.2⟩

/-- a gather without its question k -/
def dropZ (g : Gz) (k : Nat) : Gz := {g with l := g.l.eraseIdx k}

theorem eraseIdx_get {α : Type} (l : List α) (k i : Nat) (hi : i < (l.eraseIdx k).length) : ∃ j, ∃ h : j < l.length, (l.eraseIdx k)[i] = l[j] ∧ (∀ (β : Type) (m : List β), m.length = l.length → ∀ (h1 : i < (m.eraseIdx k).length) (h2 : j < m.length), (m.eraseIdx k)[i] = m[j]) := by
  rcases Nat.lt_or_ge i k with h | h
  · have hl : i < l.length := by have := List.length_eraseIdx_le l k; omega
    exact ⟨i, hl, List.getElem_eraseIdx_of_lt hi h, fun β m _ h1 h2 => List.getElem_eraseIdx_of_lt h1 h⟩
  · have hl : i + 1 < l.length := by
      rcases Nat.lt_or_ge k l.length with hk | hk
      · rw [List.length_eraseIdx_of_lt hk] at hi; omega
      · rw [List.eraseIdx_of_length_le hk] at hi; omega
    exact ⟨i + 1, hl, List.getElem_eraseIdx_of_ge hi h, fun β m _ h1 h2 => List.getElem_eraseIdx_of_ge h1 h⟩

theorem map_erase {α β : Type} (f : α → β) (l : List α) (k : Nat) : (l.eraseIdx k).map f = (l.map f).eraseIdx k := by
  rw [List.eraseIdx_eq_take_drop_succ, List.map_append, List.map_take, List.map_drop, ← List.eraseIdx_eq_take_drop_succ]

theorem ptr_map (Q : List Qp) : Q.map Qp.ptr = (Q.map Qp.b).map ptrV := by simp [Qp.ptr, ptrV, Function.comp_def]

/-- once its row is written -/
theorem GIn.dropped {w w1 w2 : World} {B c g0 cap n1 k : Nat} {F R : Nat → Prop} {g : Gz} {Q : List Qp} (h : GIn w B c F R g (.slice (some ⟨g0, 0, none⟩) (n1 + 1) cap) Q) (hl : g.l.length = n1 + 1) (hk : k < g.l.length)
    (hb : Below w.heap.size w w1) (ho : w2.ownsRow B 82 1 (.slice (some ⟨g0, 0, none⟩) n1 cap) n1 (((Q.map Qp.b).eraseIdx k).map ptrV)) (hm : Mod (fun k => k = g0) w1 w2) :
    GIn (w2.setCell ⟨c, 3, none⟩ (.slice (some ⟨g0, 0, none⟩) n1 cap)) B c F R (dropZ g k) (.slice (some ⟨g0, 0, none⟩) n1 cap) (Q.eraseIdx k) ∧ Mod F w (w2.setCell ⟨c, 3, none⟩ (.slice (some ⟨g0, 0, none⟩) n1 cap)) := by
  have hF0 := h.lvF g0 rfl
  have hs1 := hb.size
  have hs2 := hm.size
  have hsz : (w2.setCell ⟨c, 3, none⟩ (.slice (some ⟨g0, 0, none⟩) n1 cap)).heap.size = w2.heap.size := by simp [World.setCell]
  have hM : Mod F w w2 := (Mod.of_below hb).trans hm fun k _ hk => by rw [hk]; exact hF0.1
  have hM3 : Mod F w (w2.setCell ⟨c, 3, none⟩ (.slice (some ⟨g0, 0, none⟩) n1 cap)) := hM.setCell (.inl h.here) _
  have hold : ∀ j, j < w.heap.size → j ≠ g0 → j ≠ c → (w2.setCell ⟨c, 3, none⟩ (.slice (some ⟨g0, 0, none⟩) n1 cap)).heap[j]? = w.heap[j]? := by
    intro j hj h1 h2
    rw [Below.heap_setCell _ _ _ _ (fun e => h2 e), hm.block j (by omega) h1, hb.block j hj]
  have hc2 : w2.heap[c]? = w.heap[c]? := by
    have hlc := (h.low c h.here).2
    rw [hm.block c (by omega) (fun e => hF0.2 e.symm), hb.block c hlc]
  have hlen : Q.length = g.l.length := h.len
  have hl' : (g.l.eraseIdx k).length = n1 := by rw [List.length_eraseIdx_of_lt hk]; omega
  refine ⟨⟨?_, ?_, ?_, ?_, ?_, ?_, ?_, ?_, h.here, ?_, ?_⟩, hM3⟩
  · simp only [World.setCell, dropZ]
    rw [Array.getElem?_modify, if_pos rfl, hc2, h.obj]
    rfl
  · show World.ownsRow _ _ _ _ _ (g.l.eraseIdx k).length _
    rw [hl', ptr_map, map_erase]
    exact ho.kept (grownBy_setCells c [_] 3 w2) (.inr (by
      intro e; exact hF0.2 (Option.some.inj e)))
  · show (Q.eraseIdx k).length = (g.l.eraseIdx k).length
    rw [List.length_eraseIdx_of_lt hk, List.length_eraseIdx_of_lt (by omega), hlen]
  · intro i h1 h2
    obtain ⟨j, hj, e1, e2⟩ := eraseIdx_get Q k i h1
    have hj2 : j < g.l.length := by omega
    have e3 : (dropZ g k).l[i] = g.l[j] := e2 Qs g.l hlen.symm h2 hj2
    rw [e1, e3]
    have hq := h.each j hj hj2
    obtain ⟨m1, m2, m3⟩ := h.mbF Q[j] (List.getElem_mem hj)
    refine hq.agree (fun x hx => hold x (h.apart x hx).1 (fun e => (h.apart x hx).2 (e ▸ hF0.1)) (fun e => (h.apart x hx).2 (e ▸ h.here))) (hold _ (h.low _ m1).2 (fun e => m3 (by rw [e]; rfl)) m2)
  · rw [map_erase]; exact h.bs.sublist (List.eraseIdx_sublist _ _)
  · rw [map_erase]; exact h.mbs.sublist (List.eraseIdx_sublist _ _)
  · intro j hj; exact h.lvF j hj
  · intro q hq; exact h.mbF q (List.mem_of_mem_eraseIdx hq)
  · intro j hj; have := h.low j hj; exact ⟨this.1, by rw [hsz]; omega⟩
  · intro j hj; have := h.apart j hj; exact ⟨by rw [hsz]; omega, this.2⟩

set_option maxHeartbeats 2000000 in
theorem over (B c k : Nat) (F R : Nat → Prop) (g : Gz) (lv : Value) (Q : List Qp) (w : World) (h : GIn w B c F R g lv Q) (hk : k < g.l.length) (hkq : k < Q.length) (hn : g.l.length ≤ 1000) :
    Calls Tryd.prog 40 #[.pointer (some ⟨c, 0, none⟩), .pointer (some ⟨Q[k].b, 0, none⟩)] w fun e w' => e = .returned (.tuple #[]) ∧ (∃ lv', GIn w' B c F R (dropZ g k) lv' (Q.eraseIdx k)) ∧ Mod F w w' ∧ Mod (fun j => j = c ∨ lv.ownBlock = some j) w w' := by
  obtain ⟨g0, cap, rfl, -, -⟩ := h.row.form (by omega)
  obtain ⟨n1, hn1⟩ : ∃ n1, g.l.length = n1 + 1 := ⟨g.l.length - 1, by omega⟩
  rw [hn1] at h
  have hF0 := h.lvF g0 rfl
  have hlg0 := (h.low g0 hF0.1).2
  obtain ⟨-, -, -, z3, hfz⟩ := h.get
  have hlc := (h.low c h.here).2
  obtain ⟨W1, hW1⟩ : ∃ W1, W1 = w.alloc (.cells #[.pointer (some ⟨Q[k].b, 0, none⟩)] 82) := ⟨_, rfl⟩
  have hB1 : Below w.heap.size w W1 := by rw [hW1]; exact (Below.refl _ _).alloc (Nat.le_refl _) _
  have hrow := h.row
  rw [hn1, ptr_map] at hrow
  have D := Lib.hid (deleteOver Q[k].b w.heap.size g0 cap n1 k B (Q.map Qp.b) W1 (by rw [List.length_map, h.len, hn1]) (by omega) h.bs (by simpa using hkq) (by simp) (own_below hrow hB1) (by have y0 := heap_alloc_new w (.cells #[.pointer (some ⟨Q[k].b, 0, none⟩)] 82); rw [hW1]; simp only [World.cell?, y0]; rfl) (by omega) (by
    intro b hb
    obtain ⟨q, hq, rfl⟩ := List.mem_map.1 hb
    obtain ⟨i, hi, rfl⟩ := List.mem_iff_getElem.1 hq
    have hq := h.each i hi (by rw [← h.len]; exact hi)
    obtain ⟨ca, ta, ho⟩ := hq.obj
    exact ⟨fun e => (h.apart _ hq.own).2 (e ▸ hF0.1), ca, ta, (hB1.block _ (lt_block ho)).trans ho⟩))
  have HB := Lib.hid hB1
  have HG := Lib.hid h
  have hx1 : c ≠ g0 := fun e => hF0.2 e.symm
  have hsz : W1.heap.size = w.heap.size + 1 := by rw [hW1]; simp
  have y3 := below_cells hB1 z3
  have hob := h.obj
  clear h hrow hB1
  go_enter Tryd.func40, Tryd.ntmps40
  go_wp2_with fail
  rw [← hW1]
  refine D.out.mono ?_
  rintro e w2 ⟨rfl, ho, hm⟩
  have hc2 : w2.heap[c]? = w.heap[c]? := by rw [hm.block c (by omega) hx1, HB.out.block c hlc]
  rw [hob] at hc2
  have y4 : w2.frozen? ⟨c, 3, none⟩ = false := by simp [World.frozen?, hc2]
  have y5 : w2.cell? ⟨c, 3, none⟩ = some (.slice (some ⟨g0, 0, none⟩) (n1 + 1) cap) := by simp [World.cell?, hc2]
  have FIN := Lib.hid (HG.out.dropped hn1 hk HB.out ho hm)
  have MM := Lib.hid (((Mod.of_below (F := fun j => j = c ∨ g0 = j) HB.out).trans hm (fun _ _ e => .inr e.symm)).setCell (p := ⟨c, 3, none⟩) (.inl (.inl rfl)) (.slice (some ⟨g0, 0, none⟩) n1 cap))
  clear ho hm hc2 hob hfz
  go_wp2_with fail
  go_returns
  exact ⟨rfl, ⟨_, FIN.out.1⟩, FIN.out.2, MM.out.mono fun j _ e => e.imp id (fun e => by rw [e]; rfl)⟩

end Go.Proofs.YtfmlhdikagogcaaDoor

namespace Go.Proofs.YtfmlhdikagogcaaDoor
open Go.RowKit
set_option maxRecDepth 20000

/-- the upper half, as Mul64's own text reckons it -/
def mulT (x y : Int) : Int := IntKind.u64.wrap (x / 4294967296 * bits BinOp.and IntKind.u64 y 4294967295) + IntKind.u64.wrap (bits BinOp.and IntKind.u64 x 4294967295 * bits BinOp.and IntKind.u64 y 4294967295) / 4294967296
def mulHi (x y : Int) : Int :=
  IntKind.u64.wrap (IntKind.u64.wrap (IntKind.u64.wrap (x / 4294967296 * (y / 4294967296)) + IntKind.u64.wrap (mulT x y) / 4294967296) +
    IntKind.u64.wrap (bits BinOp.and IntKind.u64 (IntKind.u64.wrap (mulT x y)) 4294967295 + IntKind.u64.wrap (bits BinOp.and IntKind.u64 x 4294967295 * (y / 4294967296))) / 4294967296)

theorem mul64 (x y : Int) (w : World) :
    Calls Tryd.prog 43 #[.int .u64 x, .int .u64 y] w fun e w' => e = .returned (.tuple #[.int .u64 (mulHi x y), .int .u64 (IntKind.u64.wrap (x * y))]) ∧ w = w' := by
  go_enter Tryd.func43, Tryd.ntmps43
  go_wp2
  go_ret2
  exact ⟨rfl, rfl⟩

/-- which shard's an ID is -/
def homeZ (id n : Int) : Int := if n < 1 then 0 else IntKind.u64.wrap (id * 11400714819323198485) / 4294967296 % n

theorem u64_range (x : Int) : 0 ≤ IntKind.u64.wrap x ∧ IntKind.u64.wrap x ≤ 18446744073709551615 := by
  simp only [IntKind.wrap, IntKind.bits, IntKind.signed]; simp; omega

theorem home_no (id n : Int) (w : World) (h : n < 1) :
    Calls Tryd.prog 35 #[.int .u64 id, .int .i64 n] w fun r w' => r = .returned (.int .i64 0) ∧ w = w' := by
  go_enter Tryd.func35, Tryd.ntmps35
  go_wp2
  go_ret
  exact ⟨rfl, rfl⟩

theorem home_yes (id n : Int) (w : World) (h : 1 ≤ n) (h2 : n ≤ 9223372036854775807) :
    Calls Tryd.prog 35 #[.int .u64 id, .int .i64 n] w fun r w' => r = .returned (.int .i64 (homeZ id n)) ∧ w = w' := by
  have hr := u64_range (id * 11400714819323198485)
  go_enter Tryd.func35, Tryd.ntmps35
  go_wp2
  go_ret
  refine ⟨ret_int ?_, rfl⟩
  rw [homeZ, if_neg (by omega)]
  have h3 := Int.emod_lt_of_pos (IntKind.u64.wrap (id * 11400714819323198485) / 4294967296) (show 0 < n by omega)
  have h4 := Int.emod_nonneg (IntKind.u64.wrap (id * 11400714819323198485) / 4294967296) (show n ≠ 0 by omega)
  exact IntWalk.wrap64_in _ (by omega)

theorem refHome_no (id n : Int) (w : World) (h : n < 1) :
    Calls Tryd.prog 17 #[.int .u64 id, .int .i64 n] w fun r w' => r = .returned (.int .i64 0) ∧ w = w' := by
  go_enter Tryd.func17, Tryd.ntmps17
  go_wp2
  go_ret
  exact ⟨rfl, rfl⟩

theorem refHome_yes (id n : Int) (w : World) (h : 1 ≤ n) (h2 : n ≤ 9223372036854775807) :
    Calls Tryd.prog 17 #[.int .u64 id, .int .i64 n] w fun r w' => r = .returned (.int .i64 (homeZ id n)) ∧ w = w' := by
  have hr := u64_range (id * 11400714819323198485)
  go_enter Tryd.func17, Tryd.ntmps17
  go_wp2_with (go_at_call 43; refine (mul64 _ _ _).mono ?_; rintro e w' ⟨rfl, rfl⟩)
  go_ret
  refine ⟨ret_int ?_, rfl⟩
  rw [homeZ, if_neg (by omega)]
  have h3 := Int.emod_lt_of_pos (IntKind.u64.wrap (id * 11400714819323198485) / 4294967296) (show 0 < n by omega)
  have h4 := Int.emod_nonneg (IntKind.u64.wrap (id * 11400714819323198485) / 4294967296) (show n ≠ 0 by omega)
  exact IntWalk.wrap64_in _ (by omega)

theorem home_range (id n : Int) (h : 1 ≤ n) : 0 ≤ homeZ id n ∧ homeZ id n < n := by
  rw [homeZ, if_neg (by omega)]
  exact ⟨Int.emod_nonneg _ (by omega), Int.emod_lt_of_pos _ (by omega)⟩

end Go.Proofs.YtfmlhdikagogcaaDoor

namespace Go.Proofs.YtfmlhdikagogcaaDoor
open Go.RowKit
set_option maxRecDepth 20000

theorem heldN_bit (l : List Bool) (j i : Nat) : (heldN l j).testBit i = (decide (j ≤ i) && l.getD (i - j) false) := by
  induction l generalizing j with
  | nil => simp [heldN]
  | cons b r ih =>
    unfold heldN
    rw [Nat.testBit_or, ih (j + 1)]
    rcases Nat.lt_trichotomy i j with h | h | h
    · rw [decide_eq_false (by omega), decide_eq_false (by omega)]
      cases b
      · simp
      · simp [Nat.one_shiftLeft, Nat.testBit_two_pow]; omega
    · subst h
      rw [decide_eq_true (Nat.le_refl _), decide_eq_false (by omega), Nat.sub_self]
      cases b <;> simp [Nat.one_shiftLeft, Nat.testBit_two_pow]
    · rw [decide_eq_true (by omega), decide_eq_true (by omega), show i - j = i - (j + 1) + 1 by omega, List.getD_cons_succ]
      cases b
      · simp
      · simp [Nat.one_shiftLeft, Nat.testBit_two_pow]; intro; omega

theorem fits_bit {n : Nt} (h : fitsB n = true) (hf : 0 ≤ fieldsZ n.kind) (i : Nat) (hi : i < 15) (hb : (fieldsZ n.kind).toNat.testBit i = false) : n.flags.getD i false = false := by
  have h0 : bits .andNot .i64 (heldN n.flags 0 : Int) (fieldsZ n.kind) = 0 := by simpa [fitsB] using h
  obtain ⟨f, hfe⟩ : ∃ f : Nat, fieldsZ n.kind = f := ⟨(fieldsZ n.kind).toNat, by omega⟩
  rw [hfe] at h0 hb
  have h1 := heldN_lt n.flags 0
  have h2 : n.flags.length = 15 := rfl
  rw [h2] at h1
  have h3 : IntKind.i64.wrap ((BitVec.ofInt 64 (heldN n.flags 0 : Int) &&& ~~~ BitVec.ofInt 64 (f : Int)).toNat : Int) = 0 := h0
  have h4 : (BitVec.ofInt 64 (heldN n.flags 0 : Int) &&& ~~~ BitVec.ofInt 64 (f : Int)).toNat = 0 := by
    generalize (BitVec.ofInt 64 (heldN n.flags 0 : Int) &&& ~~~ BitVec.ofInt 64 (f : Int)) = X at h3 ⊢
    have := X.isLt
    simp only [IntKind.wrap, IntKind.signed, IntKind.bits] at h3
    generalize X.toNat = y at *
    simp at h3
    omega
  have h5 : (BitVec.ofInt 64 (heldN n.flags 0 : Int) &&& ~~~ BitVec.ofInt 64 (f : Int)) = 0#64 := BitVec.eq_of_toNat_eq (by rw [h4]; rfl)
  have h6 := congrArg (fun x => x.getLsbD i) h5
  simp only [BitVec.getLsbD_and, BitVec.getLsbD_not, BitVec.getLsbD_zero] at h6
  have h7 : (BitVec.ofInt 64 (heldN n.flags 0 : Int)).getLsbD i = (heldN n.flags 0).testBit i := by
    rw [BitVec.getLsbD, BitVec.toNat_ofInt]
    congr 1; omega
  have h8 : (BitVec.ofInt 64 (f : Int)).getLsbD i = false := by
    rw [BitVec.getLsbD, BitVec.toNat_ofInt, show ((f : Int) % ((2 ^ 64 : Nat) : Int)).toNat = f % 2 ^ 64 by omega, Nat.testBit_mod_two_pow]
    simp at hb; simp [hb]
  rw [h7, h8, heldN_bit] at h6
  simpa [show i < 64 by omega] using h6

theorem right_parts {n : Nt} (h : rightN n = true) : 1 ≤ n.kind ∧ n.kind ≤ 22 ∧ fitsB n = true ∧ boundedB n = true := by
  unfold rightN at h
  simp only [Bool.and_eq_true, decide_eq_true_eq] at h
  exact ⟨h.1.1.1, h.1.1.2, h.1.2, h.2⟩

theorem bare_len {xs : List Int} (h : bareB xs = true) : xs.length ≤ 8 := by
  unfold bareB at h
  simp only [Bool.or_eq_true, beq_iff_eq] at h
  rcases h with h | h
  · omega
  · have := h; unfold rightB at this; simp at this; omega

/-- a query holds nothing but its vector -/
theorem right_query {n : Nt} (h : rightN n = true) (hk : n.kind = 8) : (n.parts = [] ∧ n.ops = [] ∧ n.hits = []) ∧ n.vec.length ≤ 8 ∧ n.txn ≤ 0 ∧ n.batch ≤ 0 ∧ n.stamp ≤ 0 ∧ n.after ≤ 0 ∧ n.mark ≤ 0 ∧ n.code = 0 ∧ n.who = 0 := by
  obtain ⟨-, -, hf, hb⟩ := right_parts h
  have hz : fieldsZ n.kind = 8672 := by rw [hk]; rfl
  have hN : (fieldsZ n.kind).toNat = 8672 := by rw [hz]; rfl
  have f := fun i hi hb => fits_bit hf (by rw [hz]; decide) i hi hb
  rw [hN] at f
  have f0 := f 0 (by decide) (by decide)
  have f1 := f 1 (by decide) (by decide)
  have f2 := f 2 (by decide) (by decide)
  have f3 := f 3 (by decide) (by decide)
  have f4 := f 4 (by decide) (by decide)
  have f9 := f 9 (by decide) (by decide)
  have f10 := f 10 (by decide) (by decide)
  have f11 := f 11 (by decide) (by decide)
  have f12 := f 12 (by decide) (by decide)
  have f14 := f 14 (by decide) (by decide)
  unfold Nt.flags at f0 f1 f2 f3 f4 f9 f10 f11 f12 f14
  simp at f0 f1 f2 f3 f4 f9 f10 f11 f12 f14
  unfold boundedB at hb
  simp only [Bool.and_eq_true] at hb
  have hl := hb.1.1.1.2
  unfold lensB at hl
  simp only [Bool.and_eq_true] at hl
  exact ⟨⟨f11, f12, f14⟩, bare_len hl.2, f0, f1, f2, f3, f4, f9, f10⟩

/-- what has been seen tells hits alone, or an error -/
theorem right_seen {n : Nt} (h : rightN n = true) (hk : n.kind = 10) : n.hits.length ≤ 16 ∧ (∀ h ∈ n.hits, badHit h = false) ∧ 0 ≤ n.code ∧ n.code ≤ 13 := by
  obtain ⟨-, -, hf, hb⟩ := right_parts h
  unfold boundedB at hb
  simp only [Bool.and_eq_true] at hb
  have hl := hb.1.1.1.2
  have hn := hb.1.1.1.1
  have hh := hb.2
  unfold lensB at hl
  unfold numsB at hn
  simp only [Bool.and_eq_true, decide_eq_true_eq] at hl hn
  simp at hh
  exact ⟨hl.1.2, hh, hn.1.1.1.1.2, hn.2⟩

end Go.Proofs.YtfmlhdikagogcaaDoor

namespace Go.Proofs.YtfmlhdikagogcaaDoor
open Go.RowKit
set_option maxRecDepth 20000

/-- what a call that tells mail leaves -/
def GTold (w : World) (B c : Nat) (F R E : Nat → Prop) (l : List (Int × Nt)) (g' : Gz) (r : Ending) (w' : World) : Prop :=
  ∃ v rs, ∃ G F' R' : Nat → Prop, r = .returned v ∧ w'.ownsRow w.heap.size 44 17 v rs.length (flatM rs) ∧ rs.map Mv.says = l ∧ MailF w' G rs ∧ (∀ k, G k → k < w'.heap.size ∧ v.ownBlock ≠ some k) ∧ (∀ k, v.ownBlock = some k → ¬ F' k) ∧
    GAt w' B c F' R' g' ∧ Mod F w w' ∧ (∀ k, F' k → F k ∨ w.heap.size ≤ k) ∧ (∀ k, R' k → R k ∨ E k ∨ w.heap.size ≤ k)

/-- nothing is told -/
theorem GTold.none {w w' : World} {B c : Nat} {F R E : Nat → Prop} {g : Gz} (h : GAt w' B c F R g) (hm : Mod F w w') : GTold w B c F R E [] g (.returned (.slice none 0 0)) w' :=
  ⟨_, [], fun _ => False, F, R, rfl, World.ownsRow_nil _ _ _ _, rfl, fun r hr => absurd hr (by simp), fun _ h => h.elim, fun k h => by simp [Value.ownBlock] at h, h, hm, fun _ h => .inl h, fun _ h => .inl h⟩

/-- the gather is as it was -/
theorem GTold.same {w wr w' : World} {B c : Nat} {F R E : Nat → Prop} {g : Gz} {l : List (Int × Nt)} {r : Ending} (hG : GAt w B c F R g) (hb : Below w.heap.size w wr) (hR : ∀ k, R k → k < w.heap.size) (h : NewMails wr 44 R l r w') : GTold w B c F R E l g r w' := by
  obtain ⟨v, rs, G, rfl, ho, hs, hm, hG', hb'⟩ := h
  have hbb := hb.trans (hb'.mono hb.size)
  refine ⟨v, rs, G, F, R, rfl, own_mono ho hb.size, hs, hm, fun k hk => ⟨(hG' k hk).1, (hG' k hk).2.1⟩, fun k hk hF => ?_, hG.below hbb, Mod.of_below hbb, fun _ h => .inl h, fun _ h => .inl h⟩
  obtain ⟨lv, Q, hI⟩ := hG
  have := (hI.low k hF).2
  have := (ho.lt k hk).1
  have := hb.size
  omega

/-- sound numbers -/
structure GOk (g : Gz) : Prop where
  most : g.l.length ≤ 8
  shards : 1 ≤ g.shards ∧ g.shards ≤ 4
  each : ∀ q ∈ g.l, q.parts.length ≤ 4 ∧ q.note.vec.length ≤ 8 ∧ q.told.length < q.parts.length ∧ 0 ≤ q.note.k ∧ q.note.k ≤ 16 ∧ ∀ x ∈ q.told, x.2.length ≤ 16 ∧ ∀ h ∈ x.2, h.vec.length ≤ 8

/-- a question for a Query note -/
def askQ (g : Gz) (frm : Int) (n : Nt) (stamp mark : Int) : Qs :=
  ⟨{n with kind := 9, stamp := stamp, mark := mark, query := IntKind.u64.wrap (g.last + 1)}, frm, n.query, if n.vec.length = 0 then [1 + homeZ n.id g.shards] else (List.range g.shards.toNat).map fun (p : Nat) => (p : Int) + 1, []⟩

def isQ (frm : Int) (n : Nt) (q : Qs) : Bool := q.who == frm && q.query == n.query

def askZ (g : Gz) (frm : Int) (n : Nt) (stamp mark : Int) : List (Int × Nt) × Gz :=
  if oddB frm n 8 then ([], g) else
  match g.l.find? (isQ frm n) with
  | some q => (looksZ q, g)
  | none =>
    if 0 < n.vec.length ∧ (n.vec.length : Int) ≠ g.dim then ([(frm, resN 0 n.query 4 [])], g)
    else if 8 ≤ g.l.length then ([(frm, resN 0 n.query 8 [])], g)
    else (looksZ (askQ g frm n stamp mark), {g with last := IntKind.u64.wrap (g.last + 1), l := g.l ++ [askQ g frm n stamp mark]})

theorem cells_get {w : World} {b : Nat} {cs : Array Value} {t : TypeId} {fr : Nat × Nat} (h : w.heap[b]? = some (.cells cs t fr)) (j : Nat) : w.cell? ⟨b, j, none⟩ = cs[j]? := by simp [World.cell?, h]

theorem thawed {w : World} {b : Nat} {cs : Array Value} {t : TypeId} (h : w.heap[b]? = some (.cells cs t (0, 0))) (j : Nat) : w.frozen? ⟨b, j, none⟩ = false := by simp [World.frozen?, h]

theorem set_block {w : World} {b : Nat} {cs : Array Value} {t : TypeId} {fr : Nat × Nat} (h : w.heap[b]? = some (.cells cs t fr)) (j : Nat) (v : Value) : (w.setCell ⟨b, j, none⟩ v).heap[b]? = some (.cells (cs.setIfInBounds j v) t fr) := by
  simp only [World.setCell]
  rw [Array.getElem?_modify, if_pos rfl, h]
  rfl

theorem set_other {w : World} {b c : Nat} {o : Option Obj} (h : w.heap[c]? = o) (hne : c ≠ b) (j : Nat) (v : Value) : (w.setCell ⟨b, j, none⟩ v).heap[c]? = o := by
  rw [← h]; exact Below.heap_setCell _ _ _ _ (fun e => hne e)

/-- a question is put behind the others -/
theorem GIn.pushed {w w1 : World} {B c : Nat} {F R RQ : Nat → Prop} {g : Gz} {lv lv1 : Value} {Q : List Qp} {q : Qs} {x : Qp} {last : Int} (h : GIn w B c F R g lv Q) (hB : B ≤ w.heap.size) (hm : Mod (fun k => k = c ∨ lv.ownBlock = some k) w w1)
    (hc : w1.heap[c]? = some (.cells #[.int .i64 g.shards, .int .i64 g.dim, .int .u64 last, lv1] 80 (0, 0)))
    (ho : w1.ownsRow B 82 1 lv1 (g.l.length + 1) (Q.map Qp.ptr ++ [x.ptr]))
    (hlv : ∀ k, lv1.ownBlock = some k → lv.ownBlock = some k ∨ (w.heap.size ≤ k ∧ ¬ RQ k ∧ k ≠ x.mb))
    (hq : QAt w1 RQ x.b x.mb q x.vp x.vo x.vv x.vh x.pv) (hRQ : ∀ k, RQ k → w.heap.size ≤ k ∧ k < w1.heap.size) (hmb : w.heap.size ≤ x.mb ∧ x.mb < w1.heap.size ∧ ¬ RQ x.mb) :
    GAt w1 B c (fun k => F k ∨ k = x.mb ∨ lv1.ownBlock = some k) (fun k => R k ∨ RQ k) {g with last := last, l := g.l ++ [q]} ∧ Mod F w w1 := by
  have hsz := hm.size
  have hcl := (h.low c h.here).2
  have hold : ∀ k, k < w.heap.size → k ≠ c → lv.ownBlock ≠ some k → w1.heap[k]? = w.heap[k]? := fun k hk h1 h2 => hm.block k hk fun e => e.elim h1 h2
  have hlR : ∀ k, R k → k < w.heap.size ∧ k ≠ c ∧ lv.ownBlock ≠ some k := fun k hk => ⟨(h.apart k hk).1, fun e => (h.apart k hk).2 (e ▸ h.here), fun e => (h.apart k hk).2 (h.lvF k e).1⟩
  have hmq : ∀ y ∈ Q, y.mb < w.heap.size := fun y hy => (h.low _ (h.mbF y hy).1).2
  have hRb : ∀ i (h1 : i < Q.length), R Q[i].b := fun i h1 => (h.each i h1 (by rw [← h.len]; exact h1)).own
  refine ⟨⟨lv1, Q ++ [x], ?_⟩, hm.mono fun k _ hk => hk.elim (fun e => e ▸ h.here) (fun e => (h.lvF k e).1)⟩
  refine ⟨hc, ?_, by simp [h.len], ?_, ?_, ?_, ?_, ?_, .inl h.here, ?_, ?_⟩
  · simpa using ho
  · intro i h1 h2
    by_cases hi : i < Q.length
    · have hi' : i < g.l.length := by rw [← h.len]; exact hi
      have e1 : (Q ++ [x])[i] = Q[i] := List.getElem_append_left hi
      have e2 : (g.l ++ [q])[i]'h2 = g.l[i] := List.getElem_append_left hi'
      show QAt w1 _ (Q ++ [x])[i].b (Q ++ [x])[i].mb ((g.l ++ [q])[i]'h2) _ _ _ _ _
      rw [e1, e2]
      obtain ⟨m1, m2, m3⟩ := h.mbF Q[i] (List.getElem_mem hi)
      exact ((h.each i hi hi').agree (fun k hk => hold k (hlR k hk).1 (hlR k hk).2.1 (hlR k hk).2.2) (hold _ (h.low _ m1).2 m2 m3)).mono fun k hk => .inl hk
    · have hi2 : i = Q.length := by simp at h1; omega
      subst hi2
      have e1 : (Q ++ [x])[Q.length] = x := by simp
      have e2 : (g.l ++ [q])[Q.length]'h2 = q := by simp [h.len]
      show QAt w1 _ (Q ++ [x])[Q.length].b (Q ++ [x])[Q.length].mb ((g.l ++ [q])[Q.length]'h2) _ _ _ _ _
      rw [e1, e2]
      exact hq.mono fun k hk => .inr hk
  · rw [List.map_append, List.nodup_append]
    refine ⟨h.bs, by simp, fun a ha b hb => ?_⟩
    simp only [List.map_cons, List.map_nil, List.mem_singleton] at hb
    obtain ⟨y, hy, rfl⟩ := List.mem_map.1 ha
    obtain ⟨i, hi, rfl⟩ := List.mem_iff_getElem.1 hy
    have h1 := (hlR _ (hRb i hi)).1
    have h2 := (hRQ _ hq.own).1
    omega
  · rw [List.map_append, List.nodup_append]
    refine ⟨h.mbs, by simp, fun a ha b hb => ?_⟩
    simp only [List.map_cons, List.map_nil, List.mem_singleton] at hb
    obtain ⟨y, hy, rfl⟩ := List.mem_map.1 ha
    have h1 := hmq y hy
    have h2 := hmb.1
    omega
  · intro k hk
    refine ⟨.inr (.inr hk), ?_⟩
    rcases hlv k hk with e | ⟨e, -, -⟩
    · exact (h.lvF k e).2
    · omega
  · intro y hy
    rcases List.mem_append.1 hy with hy | hy
    · obtain ⟨m1, m2, m3⟩ := h.mbF y hy
      refine ⟨.inl m1, m2, fun e => ?_⟩
      have := hmq y hy
      rcases hlv _ e with e | ⟨e, -, -⟩
      · exact m3 e
      · omega
    · rw [List.mem_singleton.1 hy]
      refine ⟨.inr (.inl rfl), by have := hmb.1; omega, fun e => ?_⟩
      rcases hlv _ e with e | ⟨-, -, e⟩
      · have := (h.low _ (h.lvF _ e).1).2; have := hmb.1; omega
      · exact e rfl
  · intro k hk
    rcases hk with hk | rfl | hk
    · have := h.low k hk; omega
    · have := hmb.1; have := hmb.2.1; omega
    · exact ho.lt k hk
  · intro k hk
    rcases hk with hk | hk
    · have h1 := h.apart k hk
      refine ⟨by omega, ?_⟩
      rintro (h2 | rfl | h2)
      · exact h1.2 h2
      · have := hmb.1; omega
      · rcases hlv _ h2 with e | ⟨e, -, -⟩
        · exact h1.2 (h.lvF _ e).1
        · omega
    · have h1 := hRQ k hk
      refine ⟨h1.2, ?_⟩
      rintro (h2 | rfl | h2)
      · have := (h.low k h2).2; omega
      · exact hmb.2.2 hk
      · rcases hlv _ h2 with e | ⟨-, e, -⟩
        · have := (h.low _ (h.lvF _ e).1).2; omega
        · exact e hk

end Go.Proofs.YtfmlhdikagogcaaDoor

namespace Go.Proofs.YtfmlhdikagogcaaDoor
open Go.RowKit
set_option maxRecDepth 20000

def exZ : List Hz := [⟨1, 5, []⟩, ⟨2, 3, []⟩, ⟨3, 4, []⟩]

theorem exZ_adds : addsZ 2 [] exZ = (3, [⟨2, 3, []⟩, ⟨3, 4, []⟩]) := by rfl

theorem nums_nil (w : World) : Nums w .i32 (.slice none 0 0) [] := Nums.mk (xs := []) (by simp) (by simp) (by simp) (by simp)

theorem exZ_hits (w : World) : HitsF (w.alloc (.cells #[.int .u64 1, .int .u64 5, .slice none 0 0, .int .u64 2, .int .u64 3, .slice none 0 0, .int .u64 3, .int .u64 4, .slice none 0 0] 40)) (fun k => k = w.heap.size) (.slice (some ⟨w.heap.size, 0, none⟩) 3 3) exZ := by
  refine ⟨_, 3, rfl, by decide, by decide, by simp, fun i hi => ⟨w.heap.size, 0, .slice none 0 0, rfl, rfl, ?_⟩⟩
  match i, hi with
  | 0, _ => exact ⟨by go_simp <;> rfl, by go_simp <;> rfl, by go_simp <;> rfl, nums_nil _, fun h => absurd h (by simp [exZ])⟩
  | 1, _ => exact ⟨by go_simp <;> rfl, by go_simp <;> rfl, by go_simp <;> rfl, nums_nil _, fun h => absurd h (by simp [exZ])⟩
  | 2, _ => exact ⟨by go_simp <;> rfl, by go_simp <;> rfl, by go_simp <;> rfl, nums_nil _, fun h => absurd h (by simp [exZ])⟩

end Go.Proofs.YtfmlhdikagogcaaDoor

namespace Go.Proofs.YtfmlhdikagogcaaDoor
open Go.RowKit
set_option maxRecDepth 20000

theorem addsZ_one (most : Nat) (l ms : List Hz) (h : Hz) : addsZ most l (ms ++ [h]) = ((addsZ most l ms).1 + (addsZ most (addsZ most l ms).2 [h]).1, (addsZ most (addsZ most l ms).2 [h]).2) := by
  rw [addsZ_snoc]
  show _ = ((addsZ most l ms).1 + (if (addZ most (addsZ most l ms).2 h).1 then 0 + 1 else 0), (addZ most (addsZ most l ms).2 h).2)
  cases (addZ most (addsZ most l ms).2 h).1 <;> simp

/-- one more step of a list's frame -/
theorem frame_next {B c : Nat} {F : Nat → Prop} {most : Int} {m : List Hz} {w wr w2 w' : World} (hm : Mod F w wr) (hb : Below wr.heap.size wr w2) (h1 : ListAt w' B (Plus (Plus F w wr) w2 w') c most m) (h2 : Mod (Plus F w wr) w2 w') :
    ListAt w' B (Plus F w w') c most m ∧ Mod F w w' := by
  have hs := h2.size
  have hs0 := hm.size
  have hs2 := hb.size
  refine ⟨h1.mono fun k hk => ?_, ?_⟩
  · rcases hk with (hk | ⟨ha, hb⟩) | ⟨ha, hb⟩
    · exact .inl hk
    · exact .inr ⟨ha, by omega⟩
    · exact .inr ⟨by omega, hb⟩
  · refine (hm.andBelow hb).trans h2 fun k hk hp => ?_
    rcases hp with hp | ⟨hp, _⟩
    · exact hp
    · omega

/-- a slice of one hit, built anew -/
theorem one_hit {w : World} {E : Nat → Prop} {h : Hz} {u : Value} (hu : Nums w .i32 u h.vec) (hl : LiesIn E u h.vec.length) :
    HitsF (w.alloc (.cells #[.int .u64 h.id, .int .u64 h.dist, u] 40)) (fun k => k = w.heap.size ∨ E k) (.slice (some ⟨w.heap.size, 0, none⟩) 1 1) [h] := by
  refine ⟨_, 1, rfl, by simp, by decide, by simp, fun i hi => ⟨w.heap.size, 0, u, rfl, .inl rfl, ?_⟩⟩
  obtain rfl : i = 0 := by simp at hi; omega
  exact ⟨by go_simp <;> rfl, by go_simp <;> rfl, by go_simp <;> rfl, hu.below ((Below.refl _ _).alloc (Nat.le_refl _) _), fun hn b hb => .inr (hl hn b hb)⟩

end Go.Proofs.YtfmlhdikagogcaaDoor

namespace Go.Proofs.YtfmlhdikagogcaaDoor
open Go.RowKit
set_option maxRecDepth 20000

/-- a slice of slices of hits, and all that it reaches, lies in E -/
def ListsF (w : World) (E : Nat → Prop) (v : Value) (ls : List (List Hz)) : Prop :=
  ∃ p cap, v = .slice p ls.length cap ∧ ls.length ≤ cap ∧ cap ≤ 9223372036854775807 ∧ (p = none → cap = 0) ∧
    ∀ i (hi : i < ls.length), ∃ b off u, p = some ⟨b, off, none⟩ ∧ E b ∧ w.cell? ⟨b, off + i, none⟩ = some u ∧ HitsF w E u ls[i]

theorem ListsF.agree {w w' : World} {E : Nat → Prop} {v : Value} {ls : List (List Hz)} (h : ListsF w E v ls) (ha : Agree E w w') : ListsF w' E v ls := by
  obtain ⟨p, cap, hv, h1, h2, h3, h4⟩ := h
  refine ⟨p, cap, hv, h1, h2, h3, fun i hi => ?_⟩
  obtain ⟨b, off, u, hp, hf, c0, hn⟩ := h4 i hi
  exact ⟨b, off, u, hp, hf, by rw [ha.cell hf]; exact c0, hn.agree ha⟩

theorem ListsF.elem {w : World} {E : Nat → Prop} {p : Option Addr} {n cap : Nat} {ls : List (List Hz)} (h : ListsF w E (.slice p n cap) ls) {i : Nat} (hi : i < ls.length) :
    ∃ b off q qc, p = some ⟨b, off, none⟩ ∧ w.cell? ⟨b, off + i, none⟩ = some (.slice q ls[i].length qc) ∧ HitsF w E (.slice q ls[i].length qc) ls[i] := by
  obtain ⟨p', cap', hv, _, _, _, h⟩ := h
  simp only [Value.slice.injEq] at hv
  obtain ⟨rfl, _, _⟩ := hv
  obtain ⟨b, off, u, hp, -, c0, hn⟩ := h i hi
  obtain ⟨q, qc, rfl, -, -, -, -⟩ := id hn
  exact ⟨b, off, q, qc, hp, c0, hn⟩

/-- what lists put together are -/
def mergeZ (n : Nat) (ls : List (List Hz)) : List Hz := ls.foldl (fun l ms => (addsZ n l ms).2) []

theorem mergeZ_snoc (n : Nat) (ls : List (List Hz)) (ms : List Hz) : mergeZ n (ls ++ [ms]) = (addsZ n (mergeZ n ls) ms).2 := by
  unfold mergeZ; rw [List.foldl_append]; rfl

theorem mergeZ_good {n : Nat} (hn : 1 ≤ n) (ls : List (List Hz)) (hx : ∀ ms ∈ ls, ∀ h ∈ ms, h.vec.length ≤ 1000000) : GoodL n (mergeZ n ls) := by
  unfold mergeZ
  have : ∀ l, GoodL n l → GoodL n (ls.foldl (fun l ms => (addsZ n l ms).2) l) := by
    induction ls with
    | nil => exact fun l g => g
    | cons ms ls ih => exact fun l g => ih (fun m hm => hx m (by simp [hm])) _ (addsZ_good hn g ms (hx ms (by simp)))
  exact this [] (GoodL.nil n)

/-- new hits: what is read is the call's own -/
def FreshHits (w : World) (l : List Hz) (e : Ending) (w' : World) : Prop :=
  ∃ v, e = .returned v ∧ HitsF w' (fun k => w.heap.size ≤ k ∧ k < w'.heap.size) v l ∧ Below w.heap.size w w'

set_option maxHeartbeats 4000000 in
theorem merge (n : Nat) (hn1 : 1 ≤ n) (hn2 : n ≤ 256) (ls : List (List Hz)) (E : Nat → Prop) (v : Value) (w : World) (h : ListsF w E v ls) (hE : ∀ k, E k → k < w.heap.size) (hx : ∀ ms ∈ ls, ms.length ≤ 1000000 ∧ ∀ h ∈ ms, h.vec.length ≤ 1000000) :
    Calls Tryd.prog 41 #[.int .i64 n, v] w (FreshHits w (mergeZ n ls)) := by
  obtain ⟨p, cap, rfl, hcap, hbig, -, -⟩ := id h
  have hl9 : ls.length ≤ 9223372036854775807 := by omega
  have H := Lib.hid (And.intro h (And.intro hE hx))
  clear h hE hx hcap hbig
  go_enter Tryd.func41, Tryd.ntmps41
  go_wp2_with fail
  refine (new_yes n w (by omega) (by omega)).mono ?_
  rintro e w1 ⟨c, rfl, hL, hb1⟩
  have L1 := Lib.hid (And.intro hL hb1)
  have hs1 := hb1.size
  clear hL hb1
  go_wp2_with fail
  go_loopg [16] ls.length (fun q i wr => ∃ k : Nat, q = ls.length - k ∧ k ≤ ls.length ∧ i = .int .i64 k ∧ ListAt wr w.heap.size (Plus (Plus (fun _ => False) w w1) w1 wr) c n (mergeZ n (ls.take k)) ∧ Mod (Plus (fun _ => False) w w1) w1 wr)
  case atStart => exact ⟨0, rfl, by omega, rfl, L1.out.1.mono fun _ => .inl, Mod.refl _ _⟩
  case round =>
    obtain ⟨k, rfl, hk, rfl, hl, hmod⟩ := hrel
    have hs := hmod.size
    have BE := Lib.hid (L1.out.2.trans (hmod.below (B := w.heap.size) hs1 fun j hj => by
      rcases hj with hj | ⟨hj, -⟩
      · exact hj.elim
      · exact hj))
    by_cases hlt : k < ls.length
    · have hvr := H.out.1.agree (Agree.of_below BE.out H.out.2.1)
      obtain ⟨b, off, q, qc, rfl, c0, hhit⟩ := hvr.elem hlt
      obtain ⟨x1, x2⟩ := H.out.2.2 _ (List.getElem_mem hlt)
      have hgk := mergeZ_good hn1 (ls.take k) fun ms hm => (H.out.2.2 ms (List.mem_of_mem_take hm)).2
      have AD := Lib.hid (adds w.heap.size c (Plus (Plus (fun _ => False) w w1) w1 wr) E n (mergeZ n (ls.take k)) ls[k] _ wr hn1 (by omega) hl (fun j hj => by
        rcases hj with (hj | ⟨-, hj⟩) | ⟨-, hj⟩
        · exact hj.elim
        · omega
        · omega) (by omega) hgk hhit (fun j hj => ⟨by have := H.out.2.1 j hj; omega, fun hp => by
        have := H.out.2.1 j hj
        rcases hp with (hp | ⟨hp, -⟩) | ⟨hp, -⟩
        · exact hp
        · omega
        · omega⟩) x2 x1)
      have MO := Lib.hid hmod
      have SN := Lib.hid (mergeZ_snoc n (ls.take k) ls[k])
      rw [show ls.take k ++ [ls[k]] = ls.take (k + 1) from (take_snoc ls k hlt).symm] at SN
      clear hvr hhit x1 x2 hgk hl hmod
      go_wp2_with fail
      refine AD.out.mono ?_
      rintro e w4 ⟨rfl, h1, h2⟩
      have ST := Lib.hid (frame_next MO.out (Below.refl _ _) h1 h2)
      clear h1 h2
      go_wp2_with fail
      go_roundg (ls.length - (k + 1))
      case measure => omega
      case rel => exact ⟨k + 1, rfl, by omega, by go_num, by rw [SN.out]; exact ST.out.1, ST.out.2⟩
    · obtain rfl : k = ls.length := by omega
      rw [List.take_length] at hl
      have hg := mergeZ_good hn1 ls fun ms hm => (H.out.2.2 ms hm).2
      obtain ⟨vc, rsc, Gc, hOc, -, -, -⟩ := hl
      have HC := Lib.hid (hits _ c _ vc rsc Gc (mergeZ n ls) (Nat.le_trans hg.len (by omega)) hg.vecs wr hOc)
      clear hOc hmod hg
      go_wp2_with fail
      refine HC.out.mono ?_
      rintro e w9 ⟨v9, rs9, rfl, ho9, hh9, hb9⟩
      have N9 := Lib.hid (HitsF.of_own (F := fun k => wr.heap.size ≤ k ∧ k < w9.heap.size) ho9 (fun b hb => ho9.lt b hb) hh9.rows)
      have B9 := Lib.hid (BE.out.trans (hb9.mono BE.out.size))
      clear ho9 hh9 hb9
      go_wp2_with fail
      go_ret
      exact ⟨_, rfl, N9.out.mono fun j hj => ⟨by have := BE.out.size; omega, hj.2⟩, B9.out⟩

end Go.Proofs.YtfmlhdikagogcaaDoor

namespace Go.Proofs.YtfmlhdikagogcaaDoor
open Go.RowKit
set_option maxRecDepth 20000

/-- all, in order: no bound -/
def allZ (ms : List Hz) : List Hz := ms.foldl insZ []

theorem allZ_snoc (ms : List Hz) (h : Hz) : allZ (ms ++ [h]) = insZ (allZ ms) h := by unfold allZ; rw [List.foldl_append]; rfl

theorem rankZ_take {l : List Hz} {h : Hz} {j : Nat} (hr : rankZ l h ≤ j) : rankZ (l.take j) h = rankZ l h := by
  unfold rankZ at *
  induction l generalizing j with
  | nil => simp
  | cons a l ih =>
    simp only [List.takeWhile_cons] at hr ⊢
    cases ha : near a h
    · rw [ha] at hr
      cases j with
      | zero => simp
      | succ j => simp [List.takeWhile_cons, ha]
    · rw [ha] at hr
      simp only [if_true, List.length_cons] at hr
      cases j with
      | zero => omega
      | succ j =>
        simp only [List.take_succ_cons, List.takeWhile_cons, ha, if_true, List.length_cons]
        rw [ih (by omega)]

theorem addZ_new {n : Nat} {l : List Hz} {h : Hz} (hi : ∀ x ∈ l, x.id ≠ h.id) : addZ n l h = if l.length = n then (if near h (l.getD (n - 1) h) = true then (true, insZ (l.take (n - 1)) h) else (false, l)) else (true, insZ l h) := by
  unfold addZ
  rw [find_none fun j hj => hi _ (List.getElem_mem hj)]

theorem cut_add {n : Nat} (hn : 1 ≤ n) {L : List Hz} (hs : Sorted L) {h : Hz} (hi : ∀ x ∈ L, x.id ≠ h.id) : (addZ n (L.take n) h).2 = (insZ L h).take n := by
  rw [addZ_new fun x hx => hi x (List.mem_of_mem_take hx)]
  rcases Nat.lt_or_ge L.length n with hl | hl
  · rw [List.take_of_length_le (by omega), if_neg (by omega)]
    simp only
    rw [List.take_of_length_le (by rw [insZ_length]; omega)]
  · have hlen : (L.take n).length = n := by rw [List.length_take]; omega
    have hk : n - 1 < L.length := by omega
    have hd : (L.take n).getD (n - 1) h = L[n - 1] := by simp [List.getD, List.getElem?_take, show n - 1 < n by omega, List.getElem?_eq_getElem hk]
    rw [if_pos hlen, hd]
    cases hnr : near h L[n - 1]
    · rw [if_neg (by simp)]
      simp only
      have hr : n ≤ rankZ L h := by
        rcases Nat.lt_or_ge (rankZ L h) n with h1 | h1
        · have h2 := rankZ_above hs hk (h := h) (by omega)
          rcases near_total (hi _ (List.getElem_mem hk)) with h3 | h3
          · rw [h2] at h3; cases h3
          · rw [hnr] at h3; cases h3
        · exact h1
      have hle := rankZ_le L h
      unfold insZ
      rw [List.take_append_of_le_length (by rw [List.length_take]; omega), List.take_take, Nat.min_eq_left hr]
    · rw [if_pos rfl]
      simp only
      have hr : rankZ L h ≤ n - 1 := by
        rcases Nat.lt_or_ge (n - 1) (rankZ L h) with h1 | h1
        · have h2 := rankZ_below hk (h := h) h1
          rw [near_asymm h2] at hnr; cases hnr
        · exact h1
      have hle := rankZ_le L h
      rw [show (L.take n).take (n - 1) = L.take (n - 1) from by rw [List.take_take, Nat.min_eq_left (by omega)]]
      unfold insZ
      rw [rankZ_take hr, List.take_take, Nat.min_eq_left hr, List.take_append, List.take_of_length_le (l := L.take (rankZ L h)) (by rw [List.length_take]; omega), List.length_take, Nat.min_eq_left hle]
      congr 1
      obtain ⟨j, hj⟩ : ∃ j, n - rankZ L h = j + 1 := ⟨n - rankZ L h - 1, by omega⟩
      rw [hj, List.take_succ_cons, List.drop_take]
      congr 2
      omega

theorem allZ_perm (ms : List Hz) : (allZ ms).Perm ms := by
  have : ∀ l : List Hz, (ms.foldl insZ l).Perm (ms ++ l) := by
    induction ms with
    | nil => exact fun l => List.Perm.refl _
    | cons h ms ih =>
      intro l
      rw [List.foldl_cons]
      refine (ih _).trans ?_
      refine ((insZ_perm l h).append_left ms).trans ?_
      exact List.perm_middle
  simpa [allZ] using this []

theorem addsZ_all {n : Nat} (hn : 1 ≤ n) (ms : List Hz) (hd : Ids ms) : (addsZ n [] ms).2 = (allZ ms).take n ∧ Sorted (allZ ms) := by
  have : ∀ k, k ≤ ms.length → (addsZ n [] (ms.take k)).2 = (allZ (ms.take k)).take n ∧ Sorted (allZ (ms.take k)) := by
    intro k
    induction k with
    | zero => intro _; exact ⟨by simp [addsZ_nil, allZ], List.Pairwise.nil⟩
    | succ k ih =>
      intro hk
      obtain ⟨h1, h2⟩ := ih (by omega)
      have hk' : k < ms.length := by omega
      have hi : ∀ x ∈ allZ (ms.take k), x.id ≠ ms[k].id := by
        intro x hx
        have hx' := (allZ_perm (ms.take k)).mem_iff.1 hx
        obtain ⟨j, hj, rfl⟩ := List.mem_iff_getElem.1 hx'
        rw [List.length_take] at hj
        rw [List.getElem_take]
        exact List.pairwise_iff_getElem.1 hd j k _ _ (by omega)
      rw [take_snoc ms k hk', addsZ_snoc, allZ_snoc]
      refine ⟨?_, insZ_sorted h2 hi⟩
      simp only
      rw [h1]
      exact cut_add hn h2 hi
  have := this ms.length (Nat.le_refl _)
  rwa [List.take_length] at this

end Go.Proofs.YtfmlhdikagogcaaDoor

namespace Go.Proofs.YtfmlhdikagogcaaDoor
open Go.RowKit
set_option maxRecDepth 20000

theorem addZ_mem {n : Nat} (hn : 1 ≤ n) {l : List Hz} (g : GoodL n l) {h x : Hz} (hx : x ∈ (addZ n l h).2) : x ∈ l ∨ x = h := by
  rcases add_cases n l h hn g.len with ⟨k, hk, hp, ⟨-, ha⟩ | ⟨-, ha⟩⟩ | ⟨hp, ⟨hne, ha⟩ | ⟨heq, hk, ⟨-, ha⟩ | ⟨-, ha⟩⟩⟩
  · rw [ha] at hx; exact .inl hx
  · rw [ha] at hx
    rcases insZ_mem.1 hx with h1 | h1
    · exact .inr h1
    · exact .inl (List.mem_of_mem_eraseIdx h1)
  · rw [ha] at hx
    rcases insZ_mem.1 hx with h1 | h1
    · exact .inr h1
    · exact .inl h1
  · rw [ha] at hx; exact .inl hx
  · rw [ha] at hx
    rcases insZ_mem.1 hx with h1 | h1
    · exact .inr h1
    · exact .inl (List.mem_of_mem_take h1)

theorem addsZ_mem {n : Nat} (hn : 1 ≤ n) {l ms : List Hz} (g : GoodL n l) (hv : ∀ h ∈ ms, h.vec.length ≤ 1000000) {x : Hz} (hx : x ∈ (addsZ n l ms).2) : x ∈ l ∨ x ∈ ms := by
  unfold addsZ at hx
  revert hx
  generalize (0 : Nat) = z
  intro hx
  induction ms generalizing z l with
  | nil => exact .inl hx
  | cons h ms ih =>
    rw [List.foldl_cons] at hx
    rcases ih (addZ_good hn g (hv h (by simp))) (fun y hy => hv y (by simp [hy])) _ hx with h1 | h1
    · rcases addZ_mem hn g h1 with h2 | rfl
      · exact .inl h2
      · exact .inr (by simp)
    · exact .inr (by simp [h1])

/-- what is there and comes again, or farther -/
def There (m : List Hz) (h : Hz) : Prop := ∃ x ∈ m, x.id = h.id ∧ x.dist ≤ h.dist

theorem ids_same {l : List Hz} (hd : Ids l) {x y : Hz} (hx : x ∈ l) (hy : y ∈ l) (h : x.id = y.id) : x = y := by
  obtain ⟨i, hi, rfl⟩ := List.mem_iff_getElem.1 hx
  obtain ⟨j, hj, rfl⟩ := List.mem_iff_getElem.1 hy
  rcases Nat.lt_trichotomy i j with h1 | rfl | h1
  · exact absurd h (List.pairwise_iff_getElem.1 hd i j hi hj h1)
  · rfl
  · exact absurd h.symm (List.pairwise_iff_getElem.1 hd j i hj hi h1)

theorem addZ_there {n : Nat} (hn : 1 ≤ n) {m : List Hz} (g : GoodL n m) {h : Hz} (ht : There m h) : addZ n m h = (false, m) := by
  obtain ⟨x, hx, hi, hd⟩ := ht
  rcases add_cases n m h hn g.len with ⟨k, hk, hp, ⟨-, ha⟩ | ⟨h1, -⟩⟩ | ⟨hp, -⟩
  · exact ha
  · have := ids_same g.ids hx (List.getElem_mem hk) (by rw [hi, posZ_in hk hp])
    subst this
    omega
  · exact absurd hi (posZ_out hp x hx)

theorem addsZ_there {n : Nat} (hn : 1 ≤ n) {m ms : List Hz} (g : GoodL n m) (ht : ∀ h ∈ ms, There m h) : addsZ n m ms = (0, m) := by
  unfold addsZ
  induction ms with
  | nil => rfl
  | cons h ms ih =>
    rw [List.foldl_cons, addZ_there hn g (ht h (by simp))]
    exact ih fun x hx => ht x (by simp [hx])

theorem there_self (m : List Hz) : ∀ h ∈ m, There m h := fun h hh => ⟨h, hh, rfl, Int.le_refl _⟩

theorem hitsZ_dist {n : Nat} {l : List Hz} (hf : ∀ r ∈ l, r.Fits) {h : Hz} (hh : h ∈ hitsZ n l) : 0 ≤ h.dist := by
  unfold hitsZ at hh
  obtain ⟨x, hx, rfl⟩ := List.mem_map.1 hh
  exact (hf x (List.mem_of_mem_take hx)).2.2.1

end Go.Proofs.YtfmlhdikagogcaaDoor
