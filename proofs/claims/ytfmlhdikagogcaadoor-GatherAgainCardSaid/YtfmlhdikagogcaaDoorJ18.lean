/-
  gather: a question is under way no more.
  Which shard's an ID is.
  gather: what a call leaves; what Ask answers; a question is put to the row.
  A region that draws its order, its operations behind a name: each step's goal is small.
-/
import Derived.Test.YtfmlhdikagogcaaDoorJ17
import Derived.Test.YtfmlhdikagogcaaDoorJ01
import Derived.Test.YtfmlhdikagogcaaDoorJ09
import Derived.Test.YtfmlhdikagogcaaDoorJ11
namespace Go.Proofs.YtfmlhdikagogcaaDoor
open Go.RowKit
set_option maxRecDepth 20000

theorem zeroPtr (w : World) : (zeroValue 82).run Tryd.prog w = .ok (.pointer none) w := by kernel_rfl

/-- clear(s) of one pointer -/
theorem run_clearP {w : World} {base g n cap o : Nat} {xs : List Value} (h : w.ownsRow base 82 1 (.slice (some ⟨g, 0, none⟩) n cap) n xs) (ho : o + 1 ≤ cap) (c ty : Nat) :
    (Builtin.clear_ #[78] ty #[.slice (some ⟨g, o, none⟩) 1 c]).run Tryd.prog w = .ok (.tuple #[]) (w.setCells g o [.pointer none]) := by
  obtain ⟨_, _, cur, hh, hs⟩ := own_cap h
  have hst := run_storeCells_cells (P := Tryd.prog) g o [.pointer none] 0 w (fun j hj => by
    have : o + j < cur.size := by simp at hj; omega
    simp [World.cell?, hh, this]) (fun j hj => by simp [World.frozen?, hh]) (by simp [Value.oneCell'])
  simp only [Nat.add_zero] at hst
  have hz : (Builtin.zeroCells (Value.pointer none).cells 1).toList = [.pointer none] := by kernel_rfl
  simp [Builtin.clear_, run_underlying Tryd.underlying78, zeroPtr, hz, hst]

theorem oneOf {bs : List Nat} {k b0 : Nat} (hk : k < bs.length) (hb : bs[k] = b0) (hd : bs.Nodup) (j : Nat) (hj : j < bs.length) (hjk : j ≠ k) : bs[j] ≠ b0 := by
  intro e
  have hp := List.pairwise_iff_getElem.1 hd
  rcases Nat.lt_or_ge j k with h | h
  · exact hp j k hj hk h (e.trans hb.symm)
  · exact hp k j hk hj (by omega) (hb.trans e.symm)

/-- the row while one is being taken out -/
def midRow (xs : List Value) (k j : Nat) : List Value := (xs.eraseIdx k).take (j - 1) ++ xs.drop (j - 1)

theorem midRow_start (xs : List Value) (k : Nat) (hk : k < xs.length) : midRow xs k (k + 1) = xs := by
  unfold midRow
  rw [Nat.add_sub_cancel, List.eraseIdx_eq_take_drop_succ, List.take_append_of_le_length (by simp; omega), List.take_take, Nat.min_self, List.take_append_drop]

theorem midRow_length (xs : List Value) (k j : Nat) (hk : k < xs.length) (hj : k < j) (hj' : j ≤ xs.length) : (midRow xs k j).length = xs.length := by
  unfold midRow
  simp only [List.length_append, List.length_take, List.length_drop, List.length_eraseIdx_of_lt hk]
  omega

theorem midRow_get (xs : List Value) (k j : Nat) (hk : k < xs.length) (hj : k < j) (hj' : j < xs.length) : (midRow xs k j)[j]? = xs[j]? := by
  unfold midRow
  have h1 : ((xs.eraseIdx k).take (j - 1)).length = j - 1 := by rw [List.length_take, List.length_eraseIdx_of_lt hk]; omega
  rw [List.getElem?_append_right (by omega), h1, List.getElem?_drop]
  congr 1
  omega

theorem midRow_step (xs : List Value) (k j : Nat) (hk : k < xs.length) (hj : k < j) (hj' : j < xs.length) : (midRow xs k j).set (j - 1) xs[j] = midRow xs k (j + 1) := by
  unfold midRow
  have h1 : ((xs.eraseIdx k).take (j - 1)).length = j - 1 := by simp [List.length_eraseIdx_of_lt hk]; omega
  rw [List.set_append, if_neg (by omega), h1, Nat.sub_self]
  have h2 : xs.drop (j - 1) = xs[j - 1] :: xs.drop j := by
    have := List.drop_eq_getElem_cons (l := xs) (i := j - 1) (by omega)
    rw [this, show j - 1 + 1 = j by omega]
  rw [h2, List.set_cons_zero, Nat.add_sub_cancel]
  have h3 : (xs.eraseIdx k).take j = (xs.eraseIdx k).take (j - 1) ++ [xs[j]] := by
    have hl : j - 1 < (xs.eraseIdx k).length := by rw [List.length_eraseIdx_of_lt hk]; omega
    have := List.take_succ_eq_append_getElem hl
    rw [show j - 1 + 1 = j by omega] at this
    rw [this, List.getElem_eraseIdx_of_ge hl (by omega)]
    simp only [show j - 1 + 1 = j by omega]
  rw [h3]
  simp

theorem midRow_end (xs : List Value) (k : Nat) (hk : k < xs.length) : (midRow xs k xs.length).take (xs.length - 1) = xs.eraseIdx k := by
  unfold midRow
  rw [List.take_append_of_le_length (by simp [List.length_eraseIdx_of_lt hk])]
  rw [List.take_take, Nat.min_self, List.take_of_length_le (by rw [List.length_eraseIdx_of_lt hk]; omega)]

set_option maxHeartbeats 2000000 in
theorem deleteOver (b0 e0 g cap n1 k B : Nat) (bs : List Nat) (w : World) (hlen : bs.length = n1 + 1) (hn : n1 ≤ 100000) (hd : bs.Nodup) (hk : k < bs.length) (hbk : bs[k] = b0)
    (h : w.ownsRow B 82 1 (.slice (some ⟨g, 0, none⟩) (n1 + 1) cap) (n1 + 1) (bs.map ptrV)) (he : w.cell? ⟨e0, 0, none⟩ = some (ptrV b0)) (heg : e0 ≠ g) (hobj : ∀ b ∈ bs, b ≠ g ∧ ∃ ca ta, w.heap[b]? = some (.cells ca ta (0, 0))) :
    Calls Tryd.prog 58 #[.slice (some ⟨g, 0, none⟩) (n1 + 1) cap, .func (.func 59) #[] #[.pointer (some ⟨e0, 0, none⟩)]] w fun e w' =>
      e = .returned (.slice (some ⟨g, 0, none⟩) n1 cap) ∧ w'.ownsRow B 82 1 (.slice (some ⟨g, 0, none⟩) n1 cap) n1 ((bs.eraseIdx k).map ptrV) ∧ Mod (fun k => k = g) w w' := by
  obtain ⟨hcap, hmax, cur, hcur, hcs⟩ := own_cap h
  have hgl : g < w.heap.size := lt_block hcur
  have hb0 : b0 ∈ bs := by rw [← hbk]; exact List.getElem_mem hk
  have IX := Lib.hid (indexOver (.pointer (some ⟨e0, 0, none⟩)) (.slice (some ⟨g, 0, none⟩) (n1 + 1) cap) (fun a => decide (a = b0)) bs bs B w rfl (by omega) (by rw [hlen]; exact h) (fun i h1 h2 w' hb => by
    obtain ⟨-, ca, ta, ho⟩ := hobj bs[i] (List.getElem_mem h1)
    obtain ⟨-, cb, tb, ho'⟩ := hobj b0 hb0
    refine (over1 bs[i] b0 e0 w' (below_cells hb he) ⟨ca, ta, (hb.block _ (lt_block ho)).trans ho⟩ ⟨cb, tb, (hb.block _ (lt_block ho')).trans ho'⟩).mono ?_
    rintro e w'' ⟨rfl, rfl⟩
    exact ⟨rfl, Below.refl _ _⟩))
  have hpos : posG (fun a => decide (a = b0)) bs = k := posG_at hk (fun j h1 h2 => by simpa using oneOf hk hbk hd j h1 (by omega)) (by simp [hbk])
  rw [hpos] at IX
  have D := Lib.hid hd
  have BK := Lib.hid hbk
  have HW := Lib.hid h
  have HE := Lib.hid he
  have HO := Lib.hid hobj
  have hk1 : ((k : Int) == -1) = false := by rw [beq_eq_false_iff_ne]; omega
  have hk2 : k ≤ n1 := by omega
  have HL := Lib.hid hlen
  clear h hd hbk he hobj hpos hcur hcs hb0 hlen
  go_enter Tryd.func58, Tryd.ntmps58
  go_wp2_with fail
  refine IX.out.mono ?_
  rintro e w1 ⟨rfl, hb1⟩
  have B1 := Lib.hid hb1
  clear hb1
  go_wp2_with fail
  go_loopg [5, 6] (n1 + 1 - k) (fun q i j wr => ∃ m : Nat, q = n1 + 1 - m ∧ k ≤ m ∧ m ≤ n1 ∧ i = .int .i64 m ∧ j = .int .i64 ((m : Int) + 1) ∧ wr.ownsRow B 82 1 (.slice (some ⟨g, 0, none⟩) (n1 + 1) cap) (n1 + 1) (midRow (bs.map ptrV) k (m + 1)) ∧ Mod (fun k => k = g) w wr)
  case atStart =>
    refine ⟨k, rfl, Nat.le_refl _, hk2, rfl, rfl, ?_, Mod.of_below B1.out⟩
    rw [midRow_start _ _ (by simpa using hk)]
    exact own_below HW.out B1.out
  case round =>
    obtain ⟨m, rfl, hm1, hm2, rfl, rfl, hown, hmod⟩ := hrel
    have hb := HL.out
    have e1 : ((m : Int) + 1).toNat = m + 1 := by omega
    have e2 : (0 : Int) ≤ (m : Int) + 1 := by omega
    have hfr : ∀ j, wr.frozen? ⟨g, j, none⟩ = false := by
      obtain ⟨_, _, cur, hh, _⟩ := own_cap hown
      intro j; simp [World.frozen?, hh]
    by_cases hlt : m + 1 < n1 + 1
    · have hlb : m + 1 < bs.length := by omega
      have c0 : wr.cell? ⟨g, m + 1, none⟩ = some (.pointer (some ⟨bs[m + 1], 0, none⟩)) := by
        have := own_rangeAt hown rfl 0 (midRow (bs.map ptrV) k (m + 1)) (fun j u h => by simpa using h) (m + 1) (ptrV bs[m + 1]) (by
          rw [midRow_get _ _ _ (by simpa using hk) (by omega) (by simpa using hlb)]; simp [List.getElem?_eq_getElem hlb])
        simpa [ptrV] using this
      obtain ⟨u9, c9⟩ : ∃ u, wr.cell? ⟨g, m, none⟩ = some u := by
        have := (own_there hown rfl m 1 (by omega) 0 (by omega)).1
        simpa [Option.isSome_iff_exists] using this
      obtain ⟨hg0, ca, ta, ho⟩ := HO.out bs[m + 1] (List.getElem_mem hlb)
      obtain ⟨hg1, cb, tb, ho'⟩ := HO.out b0 (by rw [← BK.out]; exact List.getElem_mem hk)
      have A := Lib.hid (over1 bs[m + 1] b0 e0 wr (by rw [World.cell?_of_block (hmod.block e0 (lt_of_cell HE.out) heg)]; exact HE.out) ⟨ca, ta, (hmod.block _ (lt_block ho) hg0).trans ho⟩ ⟨cb, tb, (hmod.block _ (lt_block ho') hg1).trans ho'⟩)
      rw [decide_eq_false (oneOf hk BK.out D.out (m + 1) hlb (by omega))] at A
      unfold ptrV at A
      have ST := Lib.hid (own_setCell hown rfl (o := m) (by omega) (ptrV bs[m + 1]))
      have SM := Lib.hid (hmod.setCell (p := ⟨g, m, none⟩) (.inl rfl) (ptrV bs[m + 1]))
      have MS := Lib.hid (show (midRow (bs.map ptrV) k (m + 1)).set m (ptrV bs[m + 1]) = midRow (bs.map ptrV) k (m + 1 + 1) by have := midRow_step (bs.map ptrV) k (m + 1) (by simpa using hk) (by omega) (by simpa using hlb); simpa using this)
      have hf0 := hfr m
      clear hown hmod ho ho' hfr
      go_wp2_with fail
      refine A.out.mono ?_
      rintro e w2 ⟨rfl, rfl⟩
      go_wp2_with fail
      go_roundg (n1 + 1 - (m + 1))
      case measure => omega
      case rel => exact ⟨m + 1, rfl, by omega, by omega, by go_num, by go_num, by rw [← MS.out]; exact ST.out, SM.out⟩
    · obtain rfl : m = n1 := by omega
      have hx1 : ¬ cap = m := by omega
      have hcl := run_clearP (o := m) hown (by omega) (cap - m) 0
      have FIN := Lib.hid (And.intro (own_setCells_far [.pointer none] m wr _ (own_prefix hown (k := m) (by omega)) (by omega)) (mod_setCells hmod (.inl rfl) [.pointer none] m))
      have ME := Lib.hid (show (midRow (bs.map ptrV) k (m + 1)).take (m * 1) = (bs.eraseIdx k).map ptrV by have h1 := midRow_end (bs.map ptrV) k (by simpa using hk); rw [List.length_map, hb] at h1; rw [Nat.mul_one, List.eraseIdx_eq_take_drop_succ, List.map_append, List.map_take, List.map_drop, ← List.eraseIdx_eq_take_drop_succ]; exact h1)
      clear hown hmod hfr
      go_wp2_with fail
      go_ret
      exact ⟨rfl, by rw [← ME.out]; exact FIN.out.1, FIN.out.2⟩

/-- a gather without its question k -/
def dropZ (g : Gz) (k : Nat) : Gz := {g with l := g.l.eraseIdx k}

theorem eraseIdx_get {α : Type} (l : List α) (k i : Nat) (hi : i < (l.eraseIdx k).length) : ∃ j, ∃ h : j < l.length, (l.eraseIdx k)[i] = l[j] ∧ (∀ (β : Type) (m : List β), m.length = l.length → ∀ (h1 : i < (m.eraseIdx k).length) (h2 : j < m.length), (m.eraseIdx k)[i] = m[j]) := by
  rcases Nat.lt_or_ge i k with h | h
  · have hl : i < l.length := by have := List.length_eraseIdx_le l k; omega
    exact ⟨i, hl, List.getElem_eraseIdx_of_lt hi h, fun β m _ h1 h2 => List.getElem_eraseIdx_of_lt h1 h⟩
  · have hl : i + 1 < l.length := by
      rcases Nat.lt_or_ge k l.length with hk | hk
      · rw [List.length_eraseIdx_of_lt hk] at hi; omega
      · rw [List.eraseIdx_of_length_le hk] at hi; omega
    exact ⟨i + 1, hl, List.getElem_eraseIdx_of_ge hi h, fun β m _ h1 h2 => List.getElem_eraseIdx_of_ge h1 h⟩

theorem map_erase {α β : Type} (f : α → β) (l : List α) (k : Nat) : (l.eraseIdx k).map f = (l.map f).eraseIdx k := by
  rw [List.eraseIdx_eq_take_drop_succ, List.map_append, List.map_take, List.map_drop, ← List.eraseIdx_eq_take_drop_succ]

theorem ptr_map (Q : List Qp) : Q.map Qp.ptr = (Q.map Qp.b).map ptrV := by simp [Qp.ptr, ptrV, Function.comp_def]

/-- once its row is written -/
theorem GIn.dropped {w w1 w2 : World} {B c g0 cap n1 k : Nat} {F R : Nat → Prop} {g : Gz} {Q : List Qp} (h : GIn w B c F R g (.slice (some ⟨g0, 0, none⟩) (n1 + 1) cap) Q) (hl : g.l.length = n1 + 1) (hk : k < g.l.length)
    (hb : Below w.heap.size w w1) (ho : w2.ownsRow B 82 1 (.slice (some ⟨g0, 0, none⟩) n1 cap) n1 (((Q.map Qp.b).eraseIdx k).map ptrV)) (hm : Mod (fun k => k = g0) w1 w2) :
    GIn (w2.setCell ⟨c, 3, none⟩ (.slice (some ⟨g0, 0, none⟩) n1 cap)) B c F R (dropZ g k) (.slice (some ⟨g0, 0, none⟩) n1 cap) (Q.eraseIdx k) ∧ Mod F w (w2.setCell ⟨c, 3, none⟩ (.slice (some ⟨g0, 0, none⟩) n1 cap)) := by
  have hF0 := h.lvF g0 rfl
  have hs1 := hb.size
  have hs2 := hm.size
  have hsz : (w2.setCell ⟨c, 3, none⟩ (.slice (some ⟨g0, 0, none⟩) n1 cap)).heap.size = w2.heap.size := by simp [World.setCell]
  have hM : Mod F w w2 := (Mod.of_below hb).trans hm fun k _ hk => by rw [hk]; exact hF0.1
  have hM3 : Mod F w (w2.setCell ⟨c, 3, none⟩ (.slice (some ⟨g0, 0, none⟩) n1 cap)) := hM.setCell (.inl h.here) _
  have hold : ∀ j, j < w.heap.size → j ≠ g0 → j ≠ c → (w2.setCell ⟨c, 3, none⟩ (.slice (some ⟨g0, 0, none⟩) n1 cap)).heap[j]? = w.heap[j]? := by
    intro j hj h1 h2
    rw [Below.heap_setCell _ _ _ _ (fun e => h2 e), hm.block j (by omega) h1, hb.block j hj]
  have hc2 : w2.heap[c]? = w.heap[c]? := by
    have hlc := (h.low c h.here).2
    rw [hm.block c (by omega) (fun e => hF0.2 e.symm), hb.block c hlc]
  have hlen : Q.length = g.l.length := h.len
  have hl' : (g.l.eraseIdx k).length = n1 := by rw [List.length_eraseIdx_of_lt hk]; omega
  refine ⟨⟨?_, ?_, ?_, ?_, ?_, ?_, ?_, ?_, h.here, ?_, ?_⟩, hM3⟩
  · simp only [World.setCell, dropZ]
    rw [Array.getElem?_modify, if_pos rfl, hc2, h.obj]
    rfl
  · show World.ownsRow _ _ _ _ _ (g.l.eraseIdx k).length _
    rw [hl', ptr_map, map_erase]
    exact ho.kept (grownBy_setCells c [_] 3 w2) (.inr (by
      intro e; exact hF0.2 (Option.some.inj e)))
  · show (Q.eraseIdx k).length = (g.l.eraseIdx k).length
    rw [List.length_eraseIdx_of_lt hk, List.length_eraseIdx_of_lt (by omega), hlen]
  · intro i h1 h2
    obtain ⟨j, hj, e1, e2⟩ := eraseIdx_get Q k i h1
    have hj2 : j < g.l.length := by omega
    have e3 : (dropZ g k).l[i] = g.l[j] := e2 Qs g.l hlen.symm h2 hj2
    rw [e1, e3]
    have hq := h.each j hj hj2
    obtain ⟨m1, m2, m3⟩ := h.mbF Q[j] (List.getElem_mem hj)
    refine hq.agree (fun x hx => hold x (h.apart x hx).1 (fun e => (h.apart x hx).2 (e ▸ hF0.1)) (fun e => (h.apart x hx).2 (e ▸ h.here))) (hold _ (h.low _ m1).2 (fun e => m3 (by rw [e]; rfl)) m2)
  · rw [map_erase]; exact h.bs.sublist (List.eraseIdx_sublist _ _)
  · rw [map_erase]; exact h.mbs.sublist (List.eraseIdx_sublist _ _)
  · intro j hj; exact h.lvF j hj
  · intro q hq; exact h.mbF q (List.mem_of_mem_eraseIdx hq)
  · intro j hj; have := h.low j hj; exact ⟨this.1, by rw [hsz]; omega⟩
  · intro j hj; have := h.apart j hj; exact ⟨by rw [hsz]; omega, this.2⟩

set_option maxHeartbeats 2000000 in
theorem over (B c k : Nat) (F R : Nat → Prop) (g : Gz) (lv : Value) (Q : List Qp) (w : World) (h : GIn w B c F R g lv Q) (hk : k < g.l.length) (hkq : k < Q.length) (hn : g.l.length ≤ 1000) :
    Calls Tryd.prog 40 #[.pointer (some ⟨c, 0, none⟩), .pointer (some ⟨Q[k].b, 0, none⟩)] w fun e w' => e = .returned (.tuple #[]) ∧ (∃ lv', GIn w' B c F R (dropZ g k) lv' (Q.eraseIdx k)) ∧ Mod F w w' ∧ Mod (fun j => j = c ∨ lv.ownBlock = some j) w w' := by
  obtain ⟨g0, cap, rfl, -, -⟩ := h.row.form (by omega)
  obtain ⟨n1, hn1⟩ : ∃ n1, g.l.length = n1 + 1 := ⟨g.l.length - 1, by omega⟩
  rw [hn1] at h
  have hF0 := h.lvF g0 rfl
  have hlg0 := (h.low g0 hF0.1).2
  obtain ⟨-, -, -, z3, hfz⟩ := h.get
  have hlc := (h.low c h.here).2
  obtain ⟨W1, hW1⟩ : ∃ W1, W1 = w.alloc (.cells #[.pointer (some ⟨Q[k].b, 0, none⟩)] 82) := ⟨_, rfl⟩
  have hB1 : Below w.heap.size w W1 := by rw [hW1]; exact (Below.refl _ _).alloc (Nat.le_refl _) _
  have hrow := h.row
  rw [hn1, ptr_map] at hrow
  have D := Lib.hid (deleteOver Q[k].b w.heap.size g0 cap n1 k B (Q.map Qp.b) W1 (by rw [List.length_map, h.len, hn1]) (by omega) h.bs (by simpa using hkq) (by simp) (own_below hrow hB1) (by have y0 := heap_alloc_new w (.cells #[.pointer (some ⟨Q[k].b, 0, none⟩)] 82); rw [hW1]; simp only [World.cell?, y0]; rfl) (by omega) (by
    intro b hb
    obtain ⟨q, hq, rfl⟩ := List.mem_map.1 hb
    obtain ⟨i, hi, rfl⟩ := List.mem_iff_getElem.1 hq
    have hq := h.each i hi (by rw [← h.len]; exact hi)
    obtain ⟨ca, ta, ho⟩ := hq.obj
    exact ⟨fun e => (h.apart _ hq.own).2 (e ▸ hF0.1), ca, ta, (hB1.block _ (lt_block ho)).trans ho⟩))
  have HB := Lib.hid hB1
  have HG := Lib.hid h
  have hx1 : c ≠ g0 := fun e => hF0.2 e.symm
  have hsz : W1.heap.size = w.heap.size + 1 := by rw [hW1]; simp
  have y3 := below_cells hB1 z3
  have hob := h.obj
  clear h hrow hB1
  go_enter Tryd.func40, Tryd.ntmps40
  go_wp2_with fail
  rw [← hW1]
  refine D.out.mono ?_
  rintro e w2 ⟨rfl, ho, hm⟩
  have hc2 : w2.heap[c]? = w.heap[c]? := by rw [hm.block c (by omega) hx1, HB.out.block c hlc]
  rw [hob] at hc2
  have y4 : w2.frozen? ⟨c, 3, none⟩ = false := by simp [World.frozen?, hc2]
  have y5 : w2.cell? ⟨c, 3, none⟩ = some (.slice (some ⟨g0, 0, none⟩) (n1 + 1) cap) := by simp [World.cell?, hc2]
  have FIN := Lib.hid (HG.out.dropped hn1 hk HB.out ho hm)
  have MM := Lib.hid (((Mod.of_below (F := fun j => j = c ∨ g0 = j) HB.out).trans hm (fun _ _ e => .inr e.symm)).setCell (p := ⟨c, 3, none⟩) (.inl (.inl rfl)) (.slice (some ⟨g0, 0, none⟩) n1 cap))
  clear ho hm hc2 hob hfz
  go_wp2_with fail
  go_returns
  exact ⟨rfl, ⟨_, FIN.out.1⟩, FIN.out.2, MM.out.mono fun j _ e => e.imp id (fun e => by rw [e]; rfl)⟩

end Go.Proofs.YtfmlhdikagogcaaDoor

namespace Go.Proofs.YtfmlhdikagogcaaDoor
open Go.RowKit
set_option maxRecDepth 20000

/-- the upper half, as Mul64's own text reckons it -/
def mulT (x y : Int) : Int := IntKind.u64.wrap (x / 4294967296 * bits BinOp.and IntKind.u64 y 4294967295) + IntKind.u64.wrap (bits BinOp.and IntKind.u64 x 4294967295 * bits BinOp.and IntKind.u64 y 4294967295) / 4294967296
def mulHi (x y : Int) : Int :=
  IntKind.u64.wrap (IntKind.u64.wrap (IntKind.u64.wrap (x / 4294967296 * (y / 4294967296)) + IntKind.u64.wrap (mulT x y) / 4294967296) +
    IntKind.u64.wrap (bits BinOp.and IntKind.u64 (IntKind.u64.wrap (mulT x y)) 4294967295 + IntKind.u64.wrap (bits BinOp.and IntKind.u64 x 4294967295 * (y / 4294967296))) / 4294967296)

theorem mul64 (x y : Int) (w : World) :
    Calls Tryd.prog 43 #[.int .u64 x, .int .u64 y] w fun e w' => e = .returned (.tuple #[.int .u64 (mulHi x y), .int .u64 (IntKind.u64.wrap (x * y))]) ∧ w = w' := by
  go_enter Tryd.func43, Tryd.ntmps43
  go_wp2
  go_ret2
  exact ⟨rfl, rfl⟩

/-- which shard's an ID is -/
def homeZ (id n : Int) : Int := if n < 1 then 0 else IntKind.u64.wrap (id * 11400714819323198485) / 4294967296 % n

theorem u64_range (x : Int) : 0 ≤ IntKind.u64.wrap x ∧ IntKind.u64.wrap x ≤ 18446744073709551615 := by
  simp only [IntKind.wrap, IntKind.bits, IntKind.signed]; simp; omega

theorem home_no (id n : Int) (w : World) (h : n < 1) :
    Calls Tryd.prog 35 #[.int .u64 id, .int .i64 n] w fun r w' => r = .returned (.int .i64 0) ∧ w = w' := by
  go_enter Tryd.func35, Tryd.ntmps35
  go_wp2
  go_ret
  exact ⟨rfl, rfl⟩

theorem home_yes (id n : Int) (w : World) (h : 1 ≤ n) (h2 : n ≤ 9223372036854775807) :
    Calls Tryd.prog 35 #[.int .u64 id, .int .i64 n] w fun r w' => r = .returned (.int .i64 (homeZ id n)) ∧ w = w' := by
  have hr := u64_range (id * 11400714819323198485)
  go_enter Tryd.func35, Tryd.ntmps35
  go_wp2
  go_ret
  refine ⟨ret_int ?_, rfl⟩
  rw [homeZ, if_neg (by omega)]
  have h3 := Int.emod_lt_of_pos (IntKind.u64.wrap (id * 11400714819323198485) / 4294967296) (show 0 < n by omega)
  have h4 := Int.emod_nonneg (IntKind.u64.wrap (id * 11400714819323198485) / 4294967296) (show n ≠ 0 by omega)
  exact IntWalk.wrap64_in _ (by omega)

theorem refHome_no (id n : Int) (w : World) (h : n < 1) :
    Calls Tryd.prog 17 #[.int .u64 id, .int .i64 n] w fun r w' => r = .returned (.int .i64 0) ∧ w = w' := by
  go_enter Tryd.func17, Tryd.ntmps17
  go_wp2
  go_ret
  exact ⟨rfl, rfl⟩

theorem refHome_yes (id n : Int) (w : World) (h : 1 ≤ n) (h2 : n ≤ 9223372036854775807) :
    Calls Tryd.prog 17 #[.int .u64 id, .int .i64 n] w fun r w' => r = .returned (.int .i64 (homeZ id n)) ∧ w = w' := by
  have hr := u64_range (id * 11400714819323198485)
  go_enter Tryd.func17, Tryd.ntmps17
  go_wp2_with (go_at_call 43; refine (mul64 _ _ _).mono ?_; rintro e w' ⟨rfl, rfl⟩)
  go_ret
  refine ⟨ret_int ?_, rfl⟩
  rw [homeZ, if_neg (by omega)]
  have h3 := Int.emod_lt_of_pos (IntKind.u64.wrap (id * 11400714819323198485) / 4294967296) (show 0 < n by omega)
  have h4 := Int.emod_nonneg (IntKind.u64.wrap (id * 11400714819323198485) / 4294967296) (show n ≠ 0 by omega)
  exact IntWalk.wrap64_in _ (by omega)

theorem home_range (id n : Int) (h : 1 ≤ n) : 0 ≤ homeZ id n ∧ homeZ id n < n := by
  rw [homeZ, if_neg (by omega)]
  exact ⟨Int.emod_nonneg _ (by omega), Int.emod_lt_of_pos _ (by omega)⟩

end Go.Proofs.YtfmlhdikagogcaaDoor

namespace Go.Proofs.YtfmlhdikagogcaaDoor
open Go.RowKit
set_option maxRecDepth 20000

/-- what a call that tells mail leaves -/
def GTold (w : World) (B c : Nat) (F R E : Nat → Prop) (l : List (Int × Nt)) (g' : Gz) (r : Ending) (w' : World) : Prop :=
  ∃ v rs, ∃ G F' R' : Nat → Prop, r = .returned v ∧ w'.ownsRow w.heap.size 44 17 v rs.length (flatM rs) ∧ rs.map Mv.says = l ∧ MailF w' G rs ∧ (∀ k, G k → k < w'.heap.size ∧ v.ownBlock ≠ some k) ∧ (∀ k, v.ownBlock = some k → ¬ F' k) ∧
    GAt w' B c F' R' g' ∧ Mod F w w' ∧ (∀ k, F' k → F k ∨ w.heap.size ≤ k) ∧ (∀ k, R' k → R k ∨ E k ∨ w.heap.size ≤ k)

/-- nothing is told -/
theorem GTold.none {w w' : World} {B c : Nat} {F R E : Nat → Prop} {g : Gz} (h : GAt w' B c F R g) (hm : Mod F w w') : GTold w B c F R E [] g (.returned (.slice none 0 0)) w' :=
  ⟨_, [], fun _ => False, F, R, rfl, World.ownsRow_nil _ _ _ _, rfl, fun r hr => absurd hr (by simp), fun _ h => h.elim, fun k h => by simp [Value.ownBlock] at h, h, hm, fun _ h => .inl h, fun _ h => .inl h⟩

/-- the gather is as it was -/
theorem GTold.same {w wr w' : World} {B c : Nat} {F R E : Nat → Prop} {g : Gz} {l : List (Int × Nt)} {r : Ending} (hG : GAt w B c F R g) (hb : Below w.heap.size w wr) (hR : ∀ k, R k → k < w.heap.size) (h : NewMails wr 44 R l r w') : GTold w B c F R E l g r w' := by
  obtain ⟨v, rs, G, rfl, ho, hs, hm, hG', hb'⟩ := h
  have hbb := hb.trans (hb'.mono hb.size)
  refine ⟨v, rs, G, F, R, rfl, own_mono ho hb.size, hs, hm, fun k hk => ⟨(hG' k hk).1, (hG' k hk).2.1⟩, fun k hk hF => ?_, hG.below hbb, Mod.of_below hbb, fun _ h => .inl h, fun _ h => .inl h⟩
  obtain ⟨lv, Q, hI⟩ := hG
  have := (hI.low k hF).2
  have := (ho.lt k hk).1
  have := hb.size
  omega

/-- sound numbers -/
structure GOk (g : Gz) : Prop where
  most : g.l.length ≤ 8
  shards : 1 ≤ g.shards ∧ g.shards ≤ 4
  each : ∀ q ∈ g.l, q.parts.length ≤ 4 ∧ q.note.vec.length ≤ 8 ∧ q.told.length < q.parts.length ∧ 0 ≤ q.note.k ∧ q.note.k ≤ 16 ∧ ∀ x ∈ q.told, x.2.length ≤ 16 ∧ ∀ h ∈ x.2, h.vec.length ≤ 8

/-- a question for a Query note -/
def askQ (g : Gz) (frm : Int) (n : Nt) (stamp mark : Int) : Qs :=
  ⟨{n with kind := 9, stamp := stamp, mark := mark, query := IntKind.u64.wrap (g.last + 1)}, frm, n.query, if n.vec.length = 0 then [1 + homeZ n.id g.shards] else (List.range g.shards.toNat).map fun (p : Nat) => (p : Int) + 1, []⟩

def isQ (frm : Int) (n : Nt) (q : Qs) : Bool := q.who == frm && q.query == n.query

def askZ (g : Gz) (frm : Int) (n : Nt) (stamp mark : Int) : List (Int × Nt) × Gz :=
  if oddB frm n 8 then ([], g) else
  match g.l.find? (isQ frm n) with
  | some q => (looksZ q, g)
  | none =>
    if 0 < n.vec.length ∧ (n.vec.length : Int) ≠ g.dim then ([(frm, resN 0 n.query 4 [])], g)
    else if 8 ≤ g.l.length then ([(frm, resN 0 n.query 8 [])], g)
    else (looksZ (askQ g frm n stamp mark), {g with last := IntKind.u64.wrap (g.last + 1), l := g.l ++ [askQ g frm n stamp mark]})

theorem cells_get {w : World} {b : Nat} {cs : Array Value} {t : TypeId} {fr : Nat × Nat} (h : w.heap[b]? = some (.cells cs t fr)) (j : Nat) : w.cell? ⟨b, j, none⟩ = cs[j]? := by simp [World.cell?, h]

theorem thawed {w : World} {b : Nat} {cs : Array Value} {t : TypeId} (h : w.heap[b]? = some (.cells cs t (0, 0))) (j : Nat) : w.frozen? ⟨b, j, none⟩ = false := by simp [World.frozen?, h]

theorem set_block {w : World} {b : Nat} {cs : Array Value} {t : TypeId} {fr : Nat × Nat} (h : w.heap[b]? = some (.cells cs t fr)) (j : Nat) (v : Value) : (w.setCell ⟨b, j, none⟩ v).heap[b]? = some (.cells (cs.setIfInBounds j v) t fr) := by
  simp only [World.setCell]
  rw [Array.getElem?_modify, if_pos rfl, h]
  rfl

theorem set_other {w : World} {b c : Nat} {o : Option Obj} (h : w.heap[c]? = o) (hne : c ≠ b) (j : Nat) (v : Value) : (w.setCell ⟨b, j, none⟩ v).heap[c]? = o := by
  rw [← h]; exact Below.heap_setCell _ _ _ _ (fun e => hne e)

/-- a question is put behind the others -/
theorem GIn.pushed {w w1 : World} {B c : Nat} {F R RQ : Nat → Prop} {g : Gz} {lv lv1 : Value} {Q : List Qp} {q : Qs} {x : Qp} {last : Int} (h : GIn w B c F R g lv Q) (hB : B ≤ w.heap.size) (hm : Mod (fun k => k = c ∨ lv.ownBlock = some k) w w1)
    (hc : w1.heap[c]? = some (.cells #[.int .i64 g.shards, .int .i64 g.dim, .int .u64 last, lv1] 80 (0, 0)))
    (ho : w1.ownsRow B 82 1 lv1 (g.l.length + 1) (Q.map Qp.ptr ++ [x.ptr]))
    (hlv : ∀ k, lv1.ownBlock = some k → lv.ownBlock = some k ∨ (w.heap.size ≤ k ∧ ¬ RQ k ∧ k ≠ x.mb))
    (hq : QAt w1 RQ x.b x.mb q x.vp x.vo x.vv x.vh x.pv) (hRQ : ∀ k, RQ k → w.heap.size ≤ k ∧ k < w1.heap.size) (hmb : w.heap.size ≤ x.mb ∧ x.mb < w1.heap.size ∧ ¬ RQ x.mb) :
    GAt w1 B c (fun k => F k ∨ k = x.mb ∨ lv1.ownBlock = some k) (fun k => R k ∨ RQ k) {g with last := last, l := g.l ++ [q]} ∧ Mod F w w1 := by
  have hsz := hm.size
  have hcl := (h.low c h.here).2
  have hold : ∀ k, k < w.heap.size → k ≠ c → lv.ownBlock ≠ some k → w1.heap[k]? = w.heap[k]? := fun k hk h1 h2 => hm.block k hk fun e => e.elim h1 h2
  have hlR : ∀ k, R k → k < w.heap.size ∧ k ≠ c ∧ lv.ownBlock ≠ some k := fun k hk => ⟨(h.apart k hk).1, fun e => (h.apart k hk).2 (e ▸ h.here), fun e => (h.apart k hk).2 (h.lvF k e).1⟩
  have hmq : ∀ y ∈ Q, y.mb < w.heap.size := fun y hy => (h.low _ (h.mbF y hy).1).2
  have hRb : ∀ i (h1 : i < Q.length), R Q[i].b := fun i h1 => (h.each i h1 (by rw [← h.len]; exact h1)).own
  refine ⟨⟨lv1, Q ++ [x], ?_⟩, hm.mono fun k _ hk => hk.elim (fun e => e ▸ h.here) (fun e => (h.lvF k e).1)⟩
  refine ⟨hc, ?_, by simp [h.len], ?_, ?_, ?_, ?_, ?_, .inl h.here, ?_, ?_⟩
  · simpa using ho
  · intro i h1 h2
    by_cases hi : i < Q.length
    · have hi' : i < g.l.length := by rw [← h.len]; exact hi
      have e1 : (Q ++ [x])[i] = Q[i] := List.getElem_append_left hi
      have e2 : (g.l ++ [q])[i]'h2 = g.l[i] := List.getElem_append_left hi'
      show QAt w1 _ (Q ++ [x])[i].b (Q ++ [x])[i].mb ((g.l ++ [q])[i]'h2) _ _ _ _ _
      rw [e1, e2]
      obtain ⟨m1, m2, m3⟩ := h.mbF Q[i] (List.getElem_mem hi)
      exact ((h.each i hi hi').agree (fun k hk => hold k (hlR k hk).1 (hlR k hk).2.1 (hlR k hk).2.2) (hold _ (h.low _ m1).2 m2 m3)).mono fun k hk => .inl hk
    · have hi2 : i = Q.length := by simp at h1; omega
      subst hi2
      have e1 : (Q ++ [x])[Q.length] = x := by simp
      have e2 : (g.l ++ [q])[Q.length]'h2 = q := by simp [h.len]
      show QAt w1 _ (Q ++ [x])[Q.length].b (Q ++ [x])[Q.length].mb ((g.l ++ [q])[Q.length]'h2) _ _ _ _ _
      rw [e1, e2]
      exact hq.mono fun k hk => .inr hk
  · rw [List.map_append, List.nodup_append]
    refine ⟨h.bs, by simp, fun a ha b hb => ?_⟩
    simp only [List.map_cons, List.map_nil, List.mem_singleton] at hb
    obtain ⟨y, hy, rfl⟩ := List.mem_map.1 ha
    obtain ⟨i, hi, rfl⟩ := List.mem_iff_getElem.1 hy
    have h1 := (hlR _ (hRb i hi)).1
    have h2 := (hRQ _ hq.own).1
    omega
  · rw [List.map_append, List.nodup_append]
    refine ⟨h.mbs, by simp, fun a ha b hb => ?_⟩
    simp only [List.map_cons, List.map_nil, List.mem_singleton] at hb
    obtain ⟨y, hy, rfl⟩ := List.mem_map.1 ha
    have h1 := hmq y hy
    have h2 := hmb.1
    omega
  · intro k hk
    refine ⟨.inr (.inr hk), ?_⟩
    rcases hlv k hk with e | ⟨e, -, -⟩
    · exact (h.lvF k e).2
    · omega
  · intro y hy
    rcases List.mem_append.1 hy with hy | hy
    · obtain ⟨m1, m2, m3⟩ := h.mbF y hy
      refine ⟨.inl m1, m2, fun e => ?_⟩
      have := hmq y hy
      rcases hlv _ e with e | ⟨e, -, -⟩
      · exact m3 e
      · omega
    · rw [List.mem_singleton.1 hy]
      refine ⟨.inr (.inl rfl), by have := hmb.1; omega, fun e => ?_⟩
      rcases hlv _ e with e | ⟨-, -, e⟩
      · have := (h.low _ (h.lvF _ e).1).2; have := hmb.1; omega
      · exact e rfl
  · intro k hk
    rcases hk with hk | rfl | hk
    · have := h.low k hk; omega
    · have := hmb.1; have := hmb.2.1; omega
    · exact ho.lt k hk
  · intro k hk
    rcases hk with hk | hk
    · have h1 := h.apart k hk
      refine ⟨by omega, ?_⟩
      rintro (h2 | rfl | h2)
      · exact h1.2 h2
      · have := hmb.1; omega
      · rcases hlv _ h2 with e | ⟨e, -, -⟩
        · exact h1.2 (h.lvF _ e).1
        · omega
    · have h1 := hRQ k hk
      refine ⟨h1.2, ?_⟩
      rintro (h2 | rfl | h2)
      · have := (h.low k h2).2; omega
      · exact hmb.2.2 hk
      · rcases hlv _ h2 with e | ⟨-, e, -⟩
        · have := (h.low _ (h.lvF _ e).1).2; omega
        · exact e hk

end Go.Proofs.YtfmlhdikagogcaaDoor

namespace Go.Proofs.YtfmlhdikagogcaaDoor
open Go.RowKit
set_option maxRecDepth 20000

section
variable {P : Program} {ops O : Array Oper} {Q : Exit → Act → World → Prop} {md : Region.Mode} {S : World → Prop}

/-- an equation that no tactic opens -/
structure OpsAre (O ops : Array Oper) : Prop where
  eq : O = ops

theorem tkNH (i : Nat) {oi : Oper} {fuel : Nat} {listed : Array Bool} {a : Act} {w : World} (hO : OpsAre O ops) (hS : S w) (hi : ops.toList[i]? = some oi) (hQ : ∀ c a w, Q (.panic c) (a.put oi.dst undef) w → Q (.panic c) a w)
    (hc : canTake md ops listed i = true) (hw : Region.wanted oi (yielded ops a.tmps) = false)
    (h : wpAnyH P md O Q S fuel (listed.setIfInBounds i true) (a.put oi.dst undef) w) : wpAnyH P md O Q S (fuel + 1) listed a w := by
  obtain ⟨rfl⟩ := hO
  exact tkN i hS hi hQ hc hw h

theorem tkYH (i : Nat) {oi : Oper} {v : Value} {fuel : Nat} {listed : Array Bool} {a : Act} {w : World} (hO : OpsAre O ops) (hS : S w) (hi : ops.toList[i]? = some oi) (hQ : ∀ c a w, Q (.panic c) (a.put oi.dst v) w → Q (.panic c) a w)
    (hc : canTake md ops listed i = true) (hw : Region.wanted oi (yielded ops a.tmps) = true) (hy : ∀ w, S w → (execOp a.eval oi).run P w = .ok (.value v) w)
    (h : wpAnyH P md O Q S fuel (listed.setIfInBounds i true) (a.put oi.dst v) w) : wpAnyH P md O Q S (fuel + 1) listed a w := by
  obtain ⟨rfl⟩ := hO
  exact tkY i hS hi hQ hc hw hy h

theorem spkH (i : Nat) {oi : Oper} {fuel : Nat} {listed : Array Bool} {a : Act} {w : World} (hO : OpsAre O ops) (hi : ops.toList[i]? = some oi)
    (hr : Region.ready md ops listed = [i]) (hw : Region.wanted oi (yielded ops a.tmps) = true)
    (h : ∀ K' : Act → World → Prop, Shut (∀ a w, S w → (S w → wpAnyH P md O Q S fuel (listed.setIfInBounds i true) a w) → K' a w) → oi.wp P a w K' Q) : wpAnyH P md O Q S (fuel + 1) listed a w := by
  obtain ⟨rfl⟩ := hO
  exact spk i hi hr hw h

theorem spBH (i j : Nat) {oi oj : Oper} {fuel : Nat} {listed : Array Bool} {a : Act} {w : World} (hO : OpsAre O ops) (hi : ops.toList[i]? = some oi) (hj : ops.toList[j]? = some oj)
    (hr : Region.ready md ops listed = [i, j]) (hwi : Region.wanted oi (yielded ops a.tmps) = true) (hwj : Region.wanted oj (yielded ops a.tmps) = true)
    (h : ∀ K' : Act → World → Prop, Shut (∀ a w, S w → (S w → wpAnyH P md O Q S fuel (listed.setIfInBounds i true) a w) → K' a w) → oi.wp P a w K' Q)
    (h' : ∀ K' : Act → World → Prop, Shut (∀ a w, S w → (S w → wpAnyH P md O Q S fuel (listed.setIfInBounds j true) a w) → K' a w) → oj.wp P a w K' Q) : wpAnyH P md O Q S (fuel + 1) listed a w := by
  obtain ⟨rfl⟩ := hO
  exact spB i j hi hj hr hwi hwj h h'

theorem doneH {fuel : Nat} {listed : Array Bool} {a : Act} {w : World} (hO : OpsAre O ops) (hr : Region.ready md ops listed = []) (h : Q .normal a w) : wpAnyH P md O Q S fuel listed a w := by
  obtain ⟨rfl⟩ := hO
  exact wpAnyH_done hr h _

theorem region_goH {id : Nat} {a : Act} {w : World} (S : World → Prop) (n : Nat) (hm : P.follows .mixedOrders = true) (hn : ops.size = n) (hS : S w.drew)
    (h : ∀ O, OpsAre O ops → S w.drew → wpAnyH P .any O Q S n (Array.replicate n false) a w.drew) : (Code.region id ops true).wp P Q a w := by
  subst hn
  exact region_go S hm hS (h ops ⟨rfl⟩)
end

end Go.Proofs.YtfmlhdikagogcaaDoor
