/-
  The document's Sort: hits in order.
  The document's Sort, walked.
  best's document: all but one; the worst.
-/
import Derived.Test.YtjnkiloomdeljaaJ14
namespace Go.Proofs.Ytjnkiloomdeljaa
open Go.RowKit

/-- how many are nearer -/
def aheadZ (l : List Hz) (h : Hz) : Nat := l.countP fun x => near x h

theorem ahead_at {m : List Hz} (hs : Sorted m) {i : Nat} (hi : i < m.length) : aheadZ m m[i] = i := by
  unfold aheadZ
  have e : m = m.take i ++ m.drop i := (List.take_append_drop i m).symm
  have h1 : (m.take i).countP (fun x => near x m[i]) = i := by
    rw [List.countP_eq_length.2 fun x hx => ?_, List.length_take]
    · omega
    · obtain ⟨j, hj, rfl⟩ := List.mem_iff_getElem.1 hx
      rw [List.length_take] at hj
      rw [List.getElem_take]
      exact List.pairwise_iff_getElem.1 hs j i _ hi (by omega)
  have h2 : (m.drop i).countP (fun x => near x m[i]) = 0 := by
    rw [List.countP_eq_zero]
    intro x hx
    obtain ⟨j, hj, rfl⟩ := List.mem_iff_getElem.1 hx
    rw [List.getElem_drop]
    rw [List.length_drop] at hj
    by_cases e : i = i + j
    · have e0 : j = 0 := by omega
      subst e0
      simp [near_irrefl]
    · have := List.pairwise_iff_getElem.1 hs i (i + j) hi (by omega) (by omega)
      simp [near_asymm this]
  calc m.countP (fun x => near x m[i]) = (m.take i ++ m.drop i).countP (fun x => near x m[i]) := by rw [← e]
    _ = i := by rw [List.countP_append, h1, h2]; rfl

theorem ahead_perm {l m : List Hz} (hp : m.Perm l) (h : Hz) : aheadZ l h = aheadZ m h := (hp.countP_eq _).symm

theorem ahead_of {l m : List Hz} (hs : Sorted m) (hp : m.Perm l) {j : Nat} (hj : j < l.length) : ∃ h : aheadZ l l[j] < m.length, m[aheadZ l l[j]] = l[j] := by
  obtain ⟨i, hi, e⟩ := List.mem_iff_getElem.1 (hp.mem_iff.2 (List.getElem_mem hj))
  have : aheadZ l l[j] = i := by rw [← e, ahead_perm hp, ahead_at hs hi]
  simp only [this]
  exact ⟨hi, e⟩

/-- what the document counts, up to k -/
theorem ahead_step {l : List Hz} (hd : Ids l) {i k : Nat} (hi : i < l.length) (hk : k < l.length) : ((l.take (k + 1)).countP fun x => near x l[i]) = ((l.take k).countP fun x => near x l[i]) + (if near l[k] l[i] = true then 1 else 0) := by
  rw [take_snoc l k hk, List.countP_append, List.countP_singleton]

theorem setAt_flat3 (rs : List Hv) (i : Nat) (hi : i < rs.length) (r : Hv) : setAt (flat3 rs) (i * 3) [.int .u64 r.id, .int .u64 r.dist, r.vec] = flat3 (rs.set i r) := by
  simp only [setAt]
  induction rs generalizing i with
  | nil => simp at hi
  | cons a rs ih =>
    cases i with
    | zero => simp [flat3]
    | succ i =>
      have := ih i (by simpa using hi)
      rw [show (i + 1) * 3 = i * 3 + 1 + 1 + 1 by omega]
      simpa [flat3] using this

theorem made_flat3 (n : Nat) : (madeCells (.agg #[.int .u64 0, .int .u64 0, .slice none 0 0] : Value).cells (n * 3)).toList = flat3 (List.replicate n ⟨0, 0, .slice none 0 0⟩) := by
  apply List.ext_getElem
  · simp [madeCells, flat3_length]
  · intro i h1 h2
    rw [flat3_length, List.length_replicate] at h2
    have hf := flat3_get (List.replicate n (⟨0, 0, .slice none 0 0⟩ : Hv)) (i / 3) (by simp; omega)
    simp only [List.getElem_replicate] at hf
    have hm : i % 3 = 0 ∨ i % 3 = 1 ∨ i % 3 = 2 := by omega
    have hc : ((.agg #[.int .u64 0, .int .u64 0, .slice none 0 0] : Value).cells).size = 3 := rfl
    have h2' : i < (flat3 (List.replicate n (⟨0, 0, .slice none 0 0⟩ : Hv))).length := by rw [flat3_length, List.length_replicate]; omega
    have hg : (flat3 (List.replicate n (⟨0, 0, .slice none 0 0⟩ : Hv)))[i]? = some (flat3 (List.replicate n (⟨0, 0, .slice none 0 0⟩ : Hv)))[i] := List.getElem?_eq_getElem h2'
    simp only [madeCells, Array.getElem_toList, Array.getElem_map, Array.getElem_range, hc]
    rcases hm with hm | hm | hm
    · have e : i / 3 * 3 = i := by omega
      rw [e, hg] at hf
      rw [Option.some.inj hf.1, hm]; rfl
    · have e : i / 3 * 3 + 1 = i := by omega
      rw [e, hg] at hf
      rw [Option.some.inj hf.2.1, hm]; rfl
    · have e : i / 3 * 3 + 1 + 1 = i := by omega
      rw [e, hg] at hf
      rw [Option.some.inj hf.2.2, hm]; rfl

/-- what was put so far stands where it belongs -/
def PutS (l : List Hz) (rl rs : List Hv) (k : Nat) : Prop := rs.length = l.length ∧ ∀ j (hj : j < l.length) (hj' : j < rl.length), j < k → rs[aheadZ l l[j]]? = some rl[j]

theorem PutS.next {l m : List Hz} {rl rs : List Hv} {k : Nat} (hs : Sorted m) (hp : m.Perm l) (hd : Ids l) (h : PutS l rl rs k) (hk : k < l.length) (hk' : k < rl.length) : PutS l rl (rs.set (aheadZ l l[k]) rl[k]) (k + 1) := by
  obtain ⟨h1, h2⟩ := h
  refine ⟨by simp [h1], fun j hj hj' hjk => ?_⟩
  obtain ⟨a1, a2⟩ := ahead_of hs hp hk
  by_cases e : j = k
  · subst e
    rw [List.getElem?_set_self (by rw [h1, ← hp.length_eq]; exact a1)]
  · have hne : aheadZ l l[k] ≠ aheadZ l l[j] := by
      intro e'
      obtain ⟨b1, b2⟩ := ahead_of hs hp hj
      have e3 : l[j] = l[k] := by rw [← b2, ← a2]; congr 1; exact e'.symm
      rcases Nat.lt_or_ge j k with h | h
      · exact List.pairwise_iff_getElem.1 hd j k hj hk h (by rw [e3])
      · exact List.pairwise_iff_getElem.1 hd k j hk hj (by omega) (by rw [e3])
    rw [List.getElem?_set_ne hne]
    exact h2 j hj hj' (by omega)

theorem PutS.rows {w : World} {F : Nat → Prop} {l m : List Hz} {rl rs : List Hv} (hs : Sorted m) (hp : m.Perm l) (h : PutS l rl rs l.length) (hr : Rows3 w F rl l) : Rows3 w F rs m := by
  obtain ⟨h1, h2⟩ := h
  refine ⟨by rw [h1, hp.length_eq], fun i i1 i2 => ?_⟩
  obtain ⟨j, hj, e⟩ := List.mem_iff_getElem.1 (hp.mem_iff.1 (List.getElem_mem i2))
  have hj' : j < rl.length := by rw [hr.len]; exact hj
  have h3 := h2 j hj hj' hj
  rw [e, ahead_perm hp, ahead_at hs i2, List.getElem?_eq_getElem i1] at h3
  rw [Option.some.inj h3, ← e]
  exact hr.each j hj' hj

end Go.Proofs.Ytjnkiloomdeljaa

namespace Go.Proofs.Ytjnkiloomdeljaa
open Go.RowKit

/-- hits in order: what is read is the call's own, and F -/
def SortTo (w : World) (F : Nat → Prop) (m : List Hz) (e : Ending) (w' : World) : Prop :=
  ∃ v, e = .returned v ∧ HitsF w' (Plus F w w') v m ∧ Below w.heap.size w w'

set_option maxHeartbeats 4000000 in
theorem sort (l m : List Hz) (hs : Sorted m) (hd : Ids l) (hp : m.Perm l) (hn : l.length ≤ 1000000) (v : Value) (F : Nat → Prop) (w : World) (h : HitsF w F v l) :
    Calls Try.prog 18 #[v] w (SortTo w F m) := by
  obtain ⟨p, cap, rfl, -, -, -, -⟩ := id h
  obtain ⟨rl, hrl, -, hel⟩ := h.rows
  have H := Lib.hid (And.intro h (And.intro hrl hel))
  have O := Lib.hid (And.intro hs (And.intro hp hd))
  have hlen := hrl.len
  obtain ⟨i0, hi0, hz0, hz1, hz2⟩ := info_parts rowHit.info
  obtain ⟨w1, hmk, hown1, hg1⟩ := run_make_full (P := Try.prog) w w.heap.size 22 43 i0 _ 3 rowHit.ty hi0 hz0 hz1 .i64 .i64 l.length (by rw [hz2]; omega) (by simp [maxLen]; omega) (Nat.le_refl _)
  rw [made_flat3] at hown1
  have M := Lib.hid (And.intro hown1 ((Below.refl w.heap.size w).grown hg1 (Nat.le_refl _) (by simp)))
  clear h hs hp hd hrl hel hi0 hz0 hz1 hz2 hown1 hg1
  go_enter Try.func18, Try.ntmps18
  go_wp2_with fail
  clear hmk
  go_loopg [14] l.length (fun q' i wr => ∃ (k : Nat) (rs : List Hv), q' = l.length - k ∧ k ≤ l.length ∧ i = .int .i64 k ∧ wr.ownsRow w.heap.size 43 3 (.slice (some ⟨w.heap.size, 0, none⟩) l.length l.length) l.length (flat3 rs) ∧ PutS l rl rs k ∧ Below w.heap.size w wr)
  case atStart => exact ⟨0, _, rfl, by omega, rfl, M.out.1, ⟨by simp, fun j hj hj' h => absurd h (by omega)⟩, M.out.2⟩
  case round =>
    obtain ⟨k, rs, rfl, hk, rfl, hown, hput, hb⟩ := hrel
    by_cases hlt : k < l.length
    · obtain ⟨b, off, up, uc, hkr, rfl, -, hrk, c0, c1, c2, -, -⟩ := H.out.2.2 k hlt
      replace c0 := below_cells hb c0
      replace c1 := below_cells hb c1
      replace c2 := below_cells hb c2
      have K := Lib.hid (And.intro hown (And.intro hput (And.intro hb hrk)))
      have hsz := hb.size
      clear hown hput hb hrk
      obtain ⟨wo, rfl⟩ : ∃ wo : World, wo = wr := ⟨_, rfl⟩
      go_wp2_with fail
      have BO := Lib.hid ((Below.refl wo.heap.size wo).alloc (Nat.le_refl _) (Obj.cells #[Value.int IntKind.u64 l[k].id, Value.int IntKind.u64 l[k].dist, Value.slice up l[k].vec.length uc] 43))
      go_loopg [6, 21] l.length (fun q' cnt i wr => ∃ j : Nat, q' = l.length - j ∧ j ≤ l.length ∧ i = .int .i64 j ∧ cnt = .int .i64 ((l.take j).countP fun x => near x l[k]) ∧ Below (wo.alloc (Obj.cells #[Value.int IntKind.u64 l[k].id, Value.int IntKind.u64 l[k].dist, Value.slice up l[k].vec.length uc] 43)).heap.size (wo.alloc (Obj.cells #[Value.int IntKind.u64 l[k].id, Value.int IntKind.u64 l[k].dist, Value.slice up l[k].vec.length uc] 43)) wr)
      case atStart => exact ⟨0, rfl, by omega, rfl, rfl, Below.refl _ _⟩
      case round =>
        obtain ⟨j, rfl, hj, rfl, rfl, hbi⟩ := hrel
        have y0 := below_cells hbi (a := ⟨wo.heap.size, 0, none⟩) (v := .int .u64 l[k].id) (by go_simp)
        have y1 := below_cells hbi (a := ⟨wo.heap.size, 1, none⟩) (v := .int .u64 l[k].dist) (by go_simp)
        have y2 := below_cells hbi (a := ⟨wo.heap.size, 2, none⟩) (v := .slice up l[k].vec.length uc) (by go_simp)
        have yb : wo.heap.size < wr.heap.size := lt_of_cell y0
        by_cases hlj : j < l.length
        · obtain ⟨b', off', up', uc', -, hp', -, -, d0, d1, d2, -, -⟩ := H.out.2.2 j hlj
          obtain ⟨rfl, rfl⟩ : b = b' ∧ off = off' := by simpa using hp'
          have hbw := K.out.2.2.1.trans ((BO.out.trans (hbi.mono BO.out.size)).mono hsz)
          replace d0 := below_cells hbw d0
          replace d1 := below_cells hbw d1
          replace d2 := below_cells hbw d2
          have BI := Lib.hid hbi
          have hst := ahead_step O.out.2.2 hlt hlj
          have hc1 : ((l.take j).countP fun x => near x l[k]) ≤ j := Nat.le_trans List.countP_le_length (by rw [List.length_take]; omega)
          have z0 : (wr.alloc (Obj.cells #[Value.int IntKind.u64 l[j].id, Value.int IntKind.u64 l[j].dist, Value.slice up' l[j].vec.length uc'] 43)).cell? ⟨wr.heap.size, 0, none⟩ = some (.int .u64 l[j].id) := by go_simp
          have z1 : (wr.alloc (Obj.cells #[Value.int IntKind.u64 l[j].id, Value.int IntKind.u64 l[j].dist, Value.slice up' l[j].vec.length uc'] 43)).cell? ⟨wr.heap.size, 1, none⟩ = some (.int .u64 l[j].dist) := by go_simp
          have z2 : (wr.alloc (Obj.cells #[Value.int IntKind.u64 l[j].id, Value.int IntKind.u64 l[j].dist, Value.slice up' l[j].vec.length uc'] 43)).cell? ⟨wr.heap.size, 2, none⟩ = some (.slice up' l[j].vec.length uc') := by go_simp
          have BJ := Lib.hid ((Below.refl wr.heap.size wr).alloc (Nat.le_refl _) (Obj.cells #[Value.int IntKind.u64 l[j].id, Value.int IntKind.u64 l[j].dist, Value.slice up' l[j].vec.length uc'] 43))
          have t0 := below_cells BJ.out y0
          have t1 := below_cells BJ.out y1
          have t2 := below_cells BJ.out y2
          have k0 : (0 : Int) ≤ (j : Int) := by omega
          have k1 : (j : Int) < (l.length : Int) := by omega
          clear hbi hp' hbw
          cases hq : near l[j] l[k]
          · have NB := Lib.hid (show nearB l[j].id l[j].dist l[k].id l[k].dist = false from hq)
            rw [hq, if_neg (by simp)] at hst
            have ST := Lib.hid hst
            by_cases hjk : j = k
            · have NB2 := Lib.hid (show nearB l[k].id l[k].dist l[j].id l[j].dist = false from by subst hjk; exact near_irrefl l[j])
              have hlk : decide (j < k) = false := decide_eq_false (by omega)
              clear hq hst hjk
              go_wp2_with fail
              refine (refNearer l[j].id l[j].dist l[k].id l[k].dist _ _ _).mono ?_
              rintro e w4 ⟨rfl, hb4⟩
              replace y0 := below_cells hb4 t0
              replace y1 := below_cells hb4 t1
              replace y2 := below_cells hb4 t2
              replace z0 := below_cells hb4 z0
              replace z1 := below_cells hb4 z1
              replace z2 := below_cells hb4 z2
              have B4 := Lib.hid (BJ.out.trans (hb4.mono BJ.out.size))
              clear t0 t1 t2 hb4 d0 d1 d2
              rw [NB.out]
              go_wp2_with fail
              refine (refNearer l[k].id l[k].dist l[j].id l[j].dist _ _ _).mono ?_
              rintro e w5 ⟨rfl, hb5⟩
              have B5 := Lib.hid (B4.out.trans (hb5.mono B4.out.size))
              clear hb5
              rw [NB2.out]
              go_wp2_with fail
              go_roundg (l.length - (j + 1))
              case measure => omega
              case rel => exact ⟨j + 1, rfl, by omega, by go_num, by rw [ST.out]; rfl, BI.out.trans (B5.out.mono BI.out.size)⟩
            · have NB2 := Lib.hid (show nearB l[k].id l[k].dist l[j].id l[j].dist = true from by
                rcases near_total (a := l[j]) (b := l[k]) (fun e => by
                  rcases Nat.lt_or_ge j k with h | h
                  · exact List.pairwise_iff_getElem.1 O.out.2.2 j k hlj hlt h e
                  · exact List.pairwise_iff_getElem.1 O.out.2.2 k j hlt hlj (by omega) e.symm) with h | h
                · rw [hq] at h; cases h
                · exact h)
              clear hq hst hjk
              go_wp2_with fail
              refine (refNearer l[j].id l[j].dist l[k].id l[k].dist _ _ _).mono ?_
              rintro e w4 ⟨rfl, hb4⟩
              replace y0 := below_cells hb4 t0
              replace y1 := below_cells hb4 t1
              replace y2 := below_cells hb4 t2
              replace z0 := below_cells hb4 z0
              replace z1 := below_cells hb4 z1
              replace z2 := below_cells hb4 z2
              have B4 := Lib.hid (BJ.out.trans (hb4.mono BJ.out.size))
              clear t0 t1 t2 hb4 d0 d1 d2
              rw [NB.out]
              go_wp2_with fail
              refine (refNearer l[k].id l[k].dist l[j].id l[j].dist _ _ _).mono ?_
              rintro e w5 ⟨rfl, hb5⟩
              have B5 := Lib.hid (B4.out.trans (hb5.mono B4.out.size))
              clear hb5
              rw [NB2.out]
              go_wp2_with fail
              go_roundg (l.length - (j + 1))
              case measure => omega
              case rel => exact ⟨j + 1, rfl, by omega, by go_num, by rw [ST.out]; rfl, BI.out.trans (B5.out.mono BI.out.size)⟩
          · have NB := Lib.hid (show nearB l[j].id l[j].dist l[k].id l[k].dist = true from hq)
            rw [hq, if_pos rfl] at hst
            have ST := Lib.hid hst
            clear hq hst
            go_wp2_with fail
            refine (refNearer l[j].id l[j].dist l[k].id l[k].dist _ _ _).mono ?_
            rintro e w4 ⟨rfl, hb4⟩
            replace y0 := below_cells hb4 t0
            replace y1 := below_cells hb4 t1
            replace y2 := below_cells hb4 t2
            replace z0 := below_cells hb4 z0
            replace z1 := below_cells hb4 z1
            replace z2 := below_cells hb4 z2
            have B4 := Lib.hid (BJ.out.trans (hb4.mono BJ.out.size))
            clear t0 t1 t2 hb4 d0 d1 d2
            rw [NB.out]
            go_wp2_with fail
            go_wp2_with fail
            go_roundg (l.length - (j + 1))
            case measure => omega
            case rel => exact ⟨j + 1, rfl, by omega, by go_num, by rw [ST.out]; rfl, BI.out.trans (B4.out.mono BI.out.size)⟩
        · obtain rfl : j = l.length := by omega
          rw [List.take_length]
          obtain ⟨r1, -⟩ := ahead_of O.out.1 O.out.2.1 hlt
          rw [O.out.2.1.length_eq] at r1
          rw [show (l.countP fun x => near x l[k]) = aheadZ l l[k] from rfl]
          have PN := Lib.hid (K.out.2.1.next O.out.1 O.out.2.1 O.out.2.2 hlt hkr)
          rw [K.out.2.2.2] at PN
          have BF := Lib.hid ((BO.out.trans (hbi.mono BO.out.size)))
          have hrs := K.out.2.1.1
          generalize aheadZ l l[k] = r at *
          have hth := own_there (own_below K.out.1 BF.out) rfl (r * 3) 3 (by omega)
          have hone : (#[.int .u64 l[k].id, .int .u64 l[k].dist, .slice up l[k].vec.length uc] : Array Value).all (·.oneCell') = true := by simp [Value.oneCell']
          have r0 : (0 : Int) ≤ (r : Int) := by omega
          have r2 : (r : Int) < (l.length : Int) := by omega
          clear hbi r1
          go_wp2_with (refine wpList_store_mid rfl 43 _ _ rfl w.heap.size (r * 3) #[.int .u64 l[k].id, .int .u64 l[k].dist, .slice up l[k].vec.length uc] (by rfl) (by rfl) (by exact hth) (by kernel_rfl) (by exact hone) ?_)
          go_roundg (l.length - (k + 1))
          case measure => omega
          case rel =>
            have hsc := own_setCells (g := w.heap.size) rfl [.int .u64 l[k].id, .int .u64 l[k].dist, .slice up l[k].vec.length uc] (r * 3) _ _ (own_below K.out.1 BF.out) (by simp; omega)
            have e := setAt_flat3 rs r (by omega) ⟨l[k].id, l[k].dist, .slice up l[k].vec.length uc⟩
            simp only at e
            rw [e] at hsc
            refine ⟨k + 1, _, rfl, by omega, by go_num, hsc, PN.out, ?_⟩
            exact (K.out.2.2.1.trans (BF.out.mono hsz)).grown (grownBy_setCells _ _ _ _) (by have := BF.out.size; omega) (fun b hb => by cases hb; exact Nat.le_refl _)
    · obtain rfl : k = l.length := by omega
      have hr := (H.out.2.1.below hb).mono (fun k hk => show Plus F w wr k from .inl hk)
      have hfin := HitsF.of_own (F := Plus F w wr) (n := l.length) hown (fun b hb => .inr (hown.lt b hb)) (hput.rows O.out.1 O.out.2.1 hr)
      have FI := Lib.hid (And.intro hfin hb)
      clear hown hput hb hr hfin
      go_wp2_with fail
      go_ret
      exact ⟨_, rfl, FI.out.1, FI.out.2⟩

end Go.Proofs.Ytjnkiloomdeljaa

namespace Go.Proofs.Ytjnkiloomdeljaa
open Go.RowKit

/-- a row of the call's own, all but one -/
def NewBut (w : World) (G : Nat → Prop) (l : List Hz) (e : Ending) (w' : World) : Prop :=
  ∃ v rs, e = .returned v ∧ w'.ownsRow w.heap.size 43 3 v rs.length (flat3 rs) ∧ Rows3 w' G rs l ∧ Below w.heap.size w w'

theorem rows_one {w : World} {G : Nat → Prop} {rs : List Hv} {l : List Hz} (h : Rows3 w G rs l) : ∀ r ∈ rs, r.vec.oneCell' = true := by
  intro r hr
  obtain ⟨i, hi, rfl⟩ := List.mem_iff_getElem.1 hr
  have := (h.each i hi (by rw [← h.len]; exact hi)).2.2.1
  obtain ⟨p, cap, e, -⟩ := this.slice
  rw [e]; rfl

theorem SrcAt.sub {w : World} {b off m c : Nat} {rs : List Hv} (h : SrcAt w (some ⟨b, off, none⟩) m c 3 (flat3 rs)) (a k : Nat) (c' : Nat) (hk : a + k ≤ rs.length) : SrcAt w (some ⟨b, off + a * 3, none⟩) k c' 3 (flat3 ((rs.drop a).take k)) := by
  refine ⟨by rw [flat3_length, List.length_take, List.length_drop]; rw [Nat.min_eq_left (by omega)], by simp, fun ad ha j u hj => ?_⟩
  obtain rfl := Option.some.inj ha
  have hjl := (List.getElem?_eq_some_iff.1 hj).1
  rw [flat3_length, List.length_take, List.length_drop, Nat.min_eq_left (by omega)] at hjl
  rw [← flat3_take, ← flat3_drop, List.getElem?_take, if_pos (by omega), List.getElem?_drop] at hj
  have := h.cells _ rfl _ _ hj
  rw [Addr.add_lit] at this ⊢
  rw [Nat.add_assoc]; exact this

theorem but_end {w w' : World} {G : Nat → Prop} {rs : List Hv} {l : List Hz} {k n : Nat} {v : Value} (hr : Rows3 w G rs l) (hk : k < rs.length) (hlen : rs.length = l.length) (ho : w'.ownsRow w.heap.size 43 3 v n (flat3 ((rs.drop 0).take k) ++ flat3 ((rs.drop (k + 1)).take (l.length - (k + 1))))) (hn : n = k + (l.length - (k + 1))) (hb : Below w.heap.size w w') : NewBut w G (l.eraseIdx k) (.returned v) w' := by
  have e : (rs.drop 0).take k ++ (rs.drop (k + 1)).take (l.length - (k + 1)) = rs.eraseIdx k := by
    rw [List.eraseIdx_eq_take_drop_succ, List.drop_zero, List.take_of_length_le (l := rs.drop (k + 1)) (by rw [List.length_drop]; omega)]
  rw [← flat3_append, e] at ho
  have hl : (rs.eraseIdx k).length = n := by rw [List.length_eraseIdx_of_lt hk]; omega
  refine ⟨v, rs.eraseIdx k, rfl, by rw [hl]; exact ho, ?_, hb⟩
  have h1 := hr.below hb
  refine ⟨by rw [List.length_eraseIdx, List.length_eraseIdx, hlen], fun i i1 i2 => ?_⟩
  rw [List.getElem_eraseIdx, List.getElem_eraseIdx]
  split
  · exact h1.each i _ _
  · exact h1.each (i + 1) _ _

set_option maxHeartbeats 4000000 in
theorem without (l : List Hz) (k : Nat) (hk : k < l.length) (hn : l.length ≤ 1000000) (G : Nat → Prop) (v : Value) (w : World) (h : HitsF w G v l) :
    Calls Try.prog 63 #[v, .int .i64 k] w (NewBut w G (l.eraseIdx k)) := by
  obtain ⟨p, cap, rfl, hc1, hc2, -, -⟩ := id h
  obtain ⟨rs, hrs, hsrc, hel⟩ := h.rows
  obtain ⟨b, off, -, -, -, rfl, -⟩ := hel k hk
  have hlen := hrs.len
  have S1 := Lib.hid (hsrc.sub 0 k cap (by omega))
  have S2 := Lib.hid (hsrc.sub (k + 1) (l.length - (k + 1)) (cap - (k + 1)) (by omega))
  have ONE := Lib.hid (rows_one hrs)
  have RR := Lib.hid hrs
  have k0 : (0 : Int) ≤ (k : Int) := by omega
  have k1 : (k : Int) ≤ (cap : Int) := by omega
  have k2 : (k : Int) < (l.length : Int) := by omega
  have k3 : ((k : Int) + 1) ≤ (l.length : Int) := by omega
  have k4 : IntKind.i64.wrap ((k : Int) + 1) = (k : Int) + 1 := by simp [IntKind.wrap, IntKind.signed, IntKind.bits] <;> omega
  have k5 : (0 : Int) ≤ (k : Int) + 1 := by omega
  have k6 : ((k : Int) + 1).toNat = k + 1 := by omega
  clear h hrs hsrc hel
  go_enter Try.func63, Try.ntmps63
  go_wp2_with fail
  obtain ⟨W0, hW0⟩ : ∃ W0, W0 = w.drew := ⟨_, rfl⟩
  have hb0 : Below w.heap.size w W0 := by rw [hW0]; exact (Below.refl _ _).drew
  have HW := Lib.hid hW0
  clear hW0
  by_cases hcap : cap = k + 1
  · subst hcap
    have k7 : (k : Int) ≤ (k : Int) + 1 := by omega
    replace S2 : Hid (SrcAt w (some ⟨b, off, none⟩) 0 0 3 (flat3 ((rs.drop (k + 1)).take (l.length - (k + 1))))) := by
      have e : l.length - (k + 1) = 0 := by omega
      rw [e]
      exact ⟨by simp [flat3], by simp, fun a _ j u hj => by simp [flat3] at hj⟩
    refine region_go (fun _ => True) (by kernel_rfl) ?hS0 (fun hH => ?_)
    case hS0 =>
      trivial
    rw [← HW.out]
    refine kY 1 hH ?_
    repeat simp only [Act.put, uA1, uB1, uC1]
    refine kY 2 hH ?_
    repeat simp only [Act.put, uA1, uB1, uC1]
    refine kY 3 hH ?_
    repeat simp only [Act.put, uA1, uB1, uC1]
    refine kY 5 hH ?_
    repeat simp only [Act.put, uA1, uB1, uC1]
    refine kY 6 hH ?_
    repeat simp only [Act.put, uA1, uB1, uC1]
    refine kY 7 hH ?_
    repeat simp only [Act.put, uA1, uB1, uC1]
    refine kY 8 hH ?_
    repeat simp only [Act.put, uA1, uB1, uC1]
    refine spk 0 rfl (by decide +kernel) (by rfl) (fun K' hK => ?_)
    go_simp
    have hr0 := own_empty W0 w.heap.size 43 3 hb0.size
    have hb1 := hb0.alloc hb0.size (.cells #[] 43)
    try dsimp only
    refine hK.out _ _ ?hS (fun hH' => ?_)
    case hS =>
      trivial
    clear hK K' hH; have hH := hH'; clear hH'; repeat simp only [Act.put, uA1, uB1, uC1]
    refine spk 4 rfl (by decide +kernel) (by rfl) (fun K' hK => ?_)
    obtain ⟨q2, n2, c2, w2, hrun2, hr2, hg2, -⟩ := run_app rowHit hr0 hb1.size (S1.out.below hb1) (flat3_one fun r hr => ONE.out r (List.mem_of_mem_drop (List.mem_of_mem_take hr))) (by simp [maxLen]; omega) (by omega)
    refine wp_append_eq hrun2 _ _ rfl rfl rfl ?_
    have hb2 := hb1.grown hg2 hb1.size (fun b hb => (hr0.lt b hb).1)
    simp only [Nat.zero_add, List.nil_append] at hr2
    try dsimp only
    refine hK.out _ _ ?hS (fun hH' => ?_)
    case hS =>
      trivial
    clear hK K' hH; have hH := hH'; clear hH'; repeat simp only [Act.put, uA1, uB1, uC1]
    refine spk 9 rfl (by decide +kernel) (by rfl) (fun K' hK => ?_)
    obtain ⟨q3, n3, c3, w3, hrun3, hr3, hg3, -⟩ := run_app rowHit hr2 hb2.size (S2.out.below hb2) (flat3_one fun r hr => ONE.out r (List.mem_of_mem_drop (List.mem_of_mem_take hr))) (by simp [maxLen]; omega) (by omega)
    refine wp_append_eq hrun3 _ _ rfl rfl rfl ?_
    have hb3 := hb2.grown hg3 hb2.size (fun b hb => (hr2.lt b hb).1)
    try dsimp only
    refine hK.out _ _ ?hS (fun hH' => ?_)
    case hS =>
      trivial
    clear hK K' hH; have hH := hH'; clear hH'; repeat simp only [Act.put, uA1, uB1, uC1]
    refine kY 10 hH ?_
    repeat simp only [Act.put, uA1, uB1, uC1]
    refine wpAnyH_done (by decide +kernel) ?_ _
    have E := Lib.hid (but_end RR.out (by omega) hlen hr3 (by omega) hb3)
    clear hr0 hr2 hr3 hb0 hb1 hb2 hb3 hH hrun2 hg2 hrun3 hg3
    go_wp2_with fail
    go_ret
    exact E.out
  · have hcap' : ¬ ((cap : Int) = (k : Int) + 1) := by omega
    refine region_go (fun _ => True) (by kernel_rfl) ?hS0 (fun hH => ?_)
    case hS0 =>
      trivial
    rw [← HW.out]
    refine kY 1 hH ?_
    repeat simp only [Act.put, uA1, uB1, uC1]
    refine kY 2 hH ?_
    repeat simp only [Act.put, uA1, uB1, uC1]
    refine kY 3 hH ?_
    repeat simp only [Act.put, uA1, uB1, uC1]
    refine kY 5 hH ?_
    repeat simp only [Act.put, uA1, uB1, uC1]
    refine kY 6 hH ?_
    repeat simp only [Act.put, uA1, uB1, uC1]
    refine kY 7 hH ?_
    repeat simp only [Act.put, uA1, uB1, uC1]
    refine kY 8 hH ?_
    repeat simp only [Act.put, uA1, uB1, uC1]
    refine spk 0 rfl (by decide +kernel) (by rfl) (fun K' hK => ?_)
    go_simp
    have hr0 := own_empty W0 w.heap.size 43 3 hb0.size
    have hb1 := hb0.alloc hb0.size (.cells #[] 43)
    try dsimp only
    refine hK.out _ _ ?hS (fun hH' => ?_)
    case hS =>
      trivial
    clear hK K' hH; have hH := hH'; clear hH'; repeat simp only [Act.put, uA1, uB1, uC1]
    refine spk 4 rfl (by decide +kernel) (by rfl) (fun K' hK => ?_)
    obtain ⟨q2, n2, c2, w2, hrun2, hr2, hg2, -⟩ := run_app rowHit hr0 hb1.size (S1.out.below hb1) (flat3_one fun r hr => ONE.out r (List.mem_of_mem_drop (List.mem_of_mem_take hr))) (by simp [maxLen]; omega) (by omega)
    refine wp_append_eq hrun2 _ _ rfl rfl rfl ?_
    have hb2 := hb1.grown hg2 hb1.size (fun b hb => (hr0.lt b hb).1)
    simp only [Nat.zero_add, List.nil_append] at hr2
    try dsimp only
    refine hK.out _ _ ?hS (fun hH' => ?_)
    case hS =>
      trivial
    clear hK K' hH; have hH := hH'; clear hH'; repeat simp only [Act.put, uA1, uB1, uC1]
    refine spk 9 rfl (by decide +kernel) (by rfl) (fun K' hK => ?_)
    obtain ⟨q3, n3, c3, w3, hrun3, hr3, hg3, -⟩ := run_app rowHit hr2 hb2.size (S2.out.below hb2) (flat3_one fun r hr => ONE.out r (List.mem_of_mem_drop (List.mem_of_mem_take hr))) (by simp [maxLen]; omega) (by omega)
    refine wp_append_eq hrun3 _ _ rfl rfl rfl ?_
    have hb3 := hb2.grown hg3 hb2.size (fun b hb => (hr2.lt b hb).1)
    try dsimp only
    refine hK.out _ _ ?hS (fun hH' => ?_)
    case hS =>
      trivial
    clear hK K' hH; have hH := hH'; clear hH'; repeat simp only [Act.put, uA1, uB1, uC1]
    refine kY 10 hH ?_
    repeat simp only [Act.put, uA1, uB1, uC1]
    refine wpAnyH_done (by decide +kernel) ?_ _
    have E := Lib.hid (but_end RR.out (by omega) hlen hr3 (by omega) hb3)
    clear hr0 hr2 hr3 hb0 hb1 hb2 hb3 hH hrun2 hg2 hrun3 hg3
    go_wp2_with fail
    go_ret
    exact E.out

end Go.Proofs.Ytjnkiloomdeljaa
