/- The document's Sort, walked. best's document: all but one; the worst. best's document: a list in memory; its worst. A region that draws its order and ends with a store: what is held through the region need not hold behind the last operation. -/
import Derived.Test.YtpjbkaibgajpcaaGreatJ09
import Derived.Test.YtpjbkaibgajpcaaGreatJ01
namespace Go.Proofs.YtpjbkaibgajpcaaGreat
open Go.RowKit
set_option maxRecDepth 20000

def SortTo (w : World) (F : Nat → Prop) (m : List Hz) (e : Ending) (w' : World) : Prop :=
  ∃ v, e = .returned v ∧ HitsF w' (Plus F w w') v m ∧ Below w.heap.size w w'

set_option maxHeartbeats 4000000 in
theorem sort (l m : List Hz) (hs : Sorted m) (hd : Ids l) (hp : m.Perm l) (hn : l.length ≤ 1000000) (v : Value) (F : Nat → Prop) (w : World) (h : HitsF w F v l) :
    Calls Tryz.prog 52 #[v] w (SortTo w F m) := by
  obtain ⟨p, cap, rfl, -, -, -, -⟩ := id h
  obtain ⟨rl, hrl, -, hel⟩ := h.rows
  have H := Lib.hid (And.intro h (And.intro hrl hel))
  have O := Lib.hid (And.intro hs (And.intro hp hd))
  have hlen := hrl.len
  obtain ⟨i0, hi0, hz0, hz1, hz2⟩ := info_parts rowHit.info
  obtain ⟨w1, hmk, hown1, hg1⟩ := run_make_full (P := Tryz.prog) w w.heap.size 30 38 i0 _ 3 rowHit.ty hi0 hz0 hz1 .i64 .i64 l.length (by rw [hz2]; omega) (by simp [maxLen]; omega) (Nat.le_refl _)
  rw [made_flat3] at hown1
  have M := Lib.hid (And.intro hown1 ((Below.refl w.heap.size w).grown hg1 (Nat.le_refl _) (by simp)))
  clear h hs hp hd hrl hel hi0 hz0 hz1 hz2 hown1 hg1
  go_enter Tryz.func52, Tryz.ntmps52
  go_wp2_with fail
  clear hmk
  go_loopg [14] l.length (fun q' i wr => ∃ (k : Nat) (rs : List Hv), q' = l.length - k ∧ k ≤ l.length ∧ i = .int .i64 k ∧ wr.ownsRow w.heap.size 38 3 (.slice (some ⟨w.heap.size, 0, none⟩) l.length l.length) l.length (flat3 rs) ∧ PutS l rl rs k ∧ Below w.heap.size w wr)
  case atStart => exact ⟨0, _, rfl, by omega, rfl, M.out.1, ⟨by simp, fun j hj hj' h => absurd h (by omega)⟩, M.out.2⟩
  case round =>
    obtain ⟨k, rs, rfl, hk, rfl, hown, hput, hb⟩ := hrel
    by_cases hlt : k < l.length
    · obtain ⟨b, off, up, uc, hkr, rfl, -, hrk, c0, c1, c2, -, -⟩ := H.out.2.2 k hlt
      replace c0 := below_cells hb c0
      replace c1 := below_cells hb c1
      replace c2 := below_cells hb c2
      have K := Lib.hid (And.intro hown (And.intro hput (And.intro hb hrk)))
      have hsz := hb.size
      clear hown hput hb hrk
      obtain ⟨wo, rfl⟩ : ∃ wo : World, wo = wr := ⟨_, rfl⟩
      go_wp2_with fail
      have BO := Lib.hid ((Below.refl wo.heap.size wo).alloc (Nat.le_refl _) (Obj.cells #[Value.int IntKind.u64 l[k].id, Value.int IntKind.u64 l[k].dist, Value.slice up l[k].vec.length uc] 38))
      go_loopg [6, 21] l.length (fun q' cnt i wr => ∃ j : Nat, q' = l.length - j ∧ j ≤ l.length ∧ i = .int .i64 j ∧ cnt = .int .i64 ((l.take j).countP fun x => near x l[k]) ∧ Below (wo.alloc (Obj.cells #[Value.int IntKind.u64 l[k].id, Value.int IntKind.u64 l[k].dist, Value.slice up l[k].vec.length uc] 38)).heap.size (wo.alloc (Obj.cells #[Value.int IntKind.u64 l[k].id, Value.int IntKind.u64 l[k].dist, Value.slice up l[k].vec.length uc] 38)) wr)
      case atStart => exact ⟨0, rfl, by omega, rfl, rfl, Below.refl _ _⟩
      case round =>
        obtain ⟨j, rfl, hj, rfl, rfl, hbi⟩ := hrel
        have y0 := below_cells hbi (a := ⟨wo.heap.size, 0, none⟩) (v := .int .u64 l[k].id) (by go_simp)
        have y1 := below_cells hbi (a := ⟨wo.heap.size, 1, none⟩) (v := .int .u64 l[k].dist) (by go_simp)
        have y2 := below_cells hbi (a := ⟨wo.heap.size, 2, none⟩) (v := .slice up l[k].vec.length uc) (by go_simp)
        have yb : wo.heap.size < wr.heap.size := lt_of_cell y0
        by_cases hlj : j < l.length
        · obtain ⟨b', off', up', uc', -, hp', -, -, d0, d1, d2, -, -⟩ := H.out.2.2 j hlj
          obtain ⟨rfl, rfl⟩ : b = b' ∧ off = off' := by simpa using hp'
          have hbw := K.out.2.2.1.trans ((BO.out.trans (hbi.mono BO.out.size)).mono hsz)
          replace d0 := below_cells hbw d0
          replace d1 := below_cells hbw d1
          replace d2 := below_cells hbw d2
          have BI := Lib.hid hbi
          have hst := ahead_step O.out.2.2 hlt hlj
          have hc1 : ((l.take j).countP fun x => near x l[k]) ≤ j := Nat.le_trans List.countP_le_length (by rw [List.length_take]; omega)
          have z0 : (wr.alloc (Obj.cells #[Value.int IntKind.u64 l[j].id, Value.int IntKind.u64 l[j].dist, Value.slice up' l[j].vec.length uc'] 38)).cell? ⟨wr.heap.size, 0, none⟩ = some (.int .u64 l[j].id) := by go_simp
          have z1 : (wr.alloc (Obj.cells #[Value.int IntKind.u64 l[j].id, Value.int IntKind.u64 l[j].dist, Value.slice up' l[j].vec.length uc'] 38)).cell? ⟨wr.heap.size, 1, none⟩ = some (.int .u64 l[j].dist) := by go_simp
          have z2 : (wr.alloc (Obj.cells #[Value.int IntKind.u64 l[j].id, Value.int IntKind.u64 l[j].dist, Value.slice up' l[j].vec.length uc'] 38)).cell? ⟨wr.heap.size, 2, none⟩ = some (.slice up' l[j].vec.length uc') := by go_simp
          have BJ := Lib.hid ((Below.refl wr.heap.size wr).alloc (Nat.le_refl _) (Obj.cells #[Value.int IntKind.u64 l[j].id, Value.int IntKind.u64 l[j].dist, Value.slice up' l[j].vec.length uc'] 38))
          have t0 := below_cells BJ.out y0
          have t1 := below_cells BJ.out y1
          have t2 := below_cells BJ.out y2
          have k0 : (0 : Int) ≤ (j : Int) := by omega
          have k1 : (j : Int) < (l.length : Int) := by omega
          clear hbi hp' hbw
          cases hq : near l[j] l[k]
          · have NB := Lib.hid (show nearB l[j].id l[j].dist l[k].id l[k].dist = false from hq)
            rw [hq, if_neg (by simp)] at hst
            have ST := Lib.hid hst
            by_cases hjk : j = k
            · have NB2 := Lib.hid (show nearB l[k].id l[k].dist l[j].id l[j].dist = false from by subst hjk; exact near_irrefl l[j])
              have hlk : decide (j < k) = false := decide_eq_false (by omega)
              clear hq hst hjk
              go_wp2_with fail
              refine (refNearer l[j].id l[j].dist l[k].id l[k].dist _ _ _).mono ?_
              rintro e w4 ⟨rfl, hb4⟩
              replace y0 := below_cells hb4 t0
              replace y1 := below_cells hb4 t1
              replace y2 := below_cells hb4 t2
              replace z0 := below_cells hb4 z0
              replace z1 := below_cells hb4 z1
              replace z2 := below_cells hb4 z2
              have B4 := Lib.hid (BJ.out.trans (hb4.mono BJ.out.size))
              clear t0 t1 t2 hb4 d0 d1 d2
              rw [NB.out]
              go_wp2_with fail
              refine (refNearer l[k].id l[k].dist l[j].id l[j].dist _ _ _).mono ?_
              rintro e w5 ⟨rfl, hb5⟩
              have B5 := Lib.hid (B4.out.trans (hb5.mono B4.out.size))
              clear hb5
              rw [NB2.out]
              go_wp2_with fail
              go_roundg (l.length - (j + 1))
              case measure => omega
              case rel => exact ⟨j + 1, rfl, by omega, by go_num, by rw [ST.out]; rfl, BI.out.trans (B5.out.mono BI.out.size)⟩
            · have NB2 := Lib.hid (show nearB l[k].id l[k].dist l[j].id l[j].dist = true from by
                rcases near_total (a := l[j]) (b := l[k]) (fun e => by
                  rcases Nat.lt_or_ge j k with h | h
                  · exact List.pairwise_iff_getElem.1 O.out.2.2 j k hlj hlt h e
                  · exact List.pairwise_iff_getElem.1 O.out.2.2 k j hlt hlj (by omega) e.symm) with h | h
                · rw [hq] at h; cases h
                · exact h)
              clear hq hst hjk
              go_wp2_with fail
              refine (refNearer l[j].id l[j].dist l[k].id l[k].dist _ _ _).mono ?_
              rintro e w4 ⟨rfl, hb4⟩
              replace y0 := below_cells hb4 t0
              replace y1 := below_cells hb4 t1
              replace y2 := below_cells hb4 t2
              replace z0 := below_cells hb4 z0
              replace z1 := below_cells hb4 z1
              replace z2 := below_cells hb4 z2
              have B4 := Lib.hid (BJ.out.trans (hb4.mono BJ.out.size))
              clear t0 t1 t2 hb4 d0 d1 d2
              rw [NB.out]
              go_wp2_with fail
              refine (refNearer l[k].id l[k].dist l[j].id l[j].dist _ _ _).mono ?_
              rintro e w5 ⟨rfl, hb5⟩
              have B5 := Lib.hid (B4.out.trans (hb5.mono B4.out.size))
              clear hb5
              rw [NB2.out]
              go_wp2_with fail
              go_roundg (l.length - (j + 1))
              case measure => omega
              case rel => exact ⟨j + 1, rfl, by omega, by go_num, by rw [ST.out]; rfl, BI.out.trans (B5.out.mono BI.out.size)⟩
          · have NB := Lib.hid (show nearB l[j].id l[j].dist l[k].id l[k].dist = true from hq)
            rw [hq, if_pos rfl] at hst
            have ST := Lib.hid hst
            clear hq hst
            go_wp2_with fail
            refine (refNearer l[j].id l[j].dist l[k].id l[k].dist _ _ _).mono ?_
            rintro e w4 ⟨rfl, hb4⟩
            replace y0 := below_cells hb4 t0
            replace y1 := below_cells hb4 t1
            replace y2 := below_cells hb4 t2
            replace z0 := below_cells hb4 z0
            replace z1 := below_cells hb4 z1
            replace z2 := below_cells hb4 z2
            have B4 := Lib.hid (BJ.out.trans (hb4.mono BJ.out.size))
            clear t0 t1 t2 hb4 d0 d1 d2
            rw [NB.out]
            go_wp2_with fail
            go_wp2_with fail
            go_roundg (l.length - (j + 1))
            case measure => omega
            case rel => exact ⟨j + 1, rfl, by omega, by go_num, by rw [ST.out]; rfl, BI.out.trans (B4.out.mono BI.out.size)⟩
        · obtain rfl : j = l.length := by omega
          rw [List.take_length]
          obtain ⟨r1, -⟩ := ahead_of O.out.1 O.out.2.1 hlt
          rw [O.out.2.1.length_eq] at r1
          rw [show (l.countP fun x => near x l[k]) = aheadZ l l[k] from rfl]
          have PN := Lib.hid (K.out.2.1.next O.out.1 O.out.2.1 O.out.2.2 hlt hkr)
          rw [K.out.2.2.2] at PN
          have BF := Lib.hid ((BO.out.trans (hbi.mono BO.out.size)))
          have hrs := K.out.2.1.1
          generalize aheadZ l l[k] = r at *
          have hth := own_there (own_below K.out.1 BF.out) rfl (r * 3) 3 (by omega)
          have hone : (#[.int .u64 l[k].id, .int .u64 l[k].dist, .slice up l[k].vec.length uc] : Array Value).all (·.oneCell') = true := by simp [Value.oneCell']
          have r0 : (0 : Int) ≤ (r : Int) := by omega
          have r2 : (r : Int) < (l.length : Int) := by omega
          clear hbi r1
          go_wp2_with (refine wpList_store_mid rfl 38 _ _ rfl w.heap.size (r * 3) #[.int .u64 l[k].id, .int .u64 l[k].dist, .slice up l[k].vec.length uc] (by rfl) (by rfl) (by exact hth) (by kernel_rfl) (by exact hone) ?_)
          go_roundg (l.length - (k + 1))
          case measure => omega
          case rel =>
            have hsc := own_setCells (g := w.heap.size) rfl [.int .u64 l[k].id, .int .u64 l[k].dist, .slice up l[k].vec.length uc] (r * 3) _ _ (own_below K.out.1 BF.out) (by simp; omega)
            have e := setAt_flat3 rs r (by omega) ⟨l[k].id, l[k].dist, .slice up l[k].vec.length uc⟩
            simp only at e
            rw [e] at hsc
            refine ⟨k + 1, _, rfl, by omega, by go_num, hsc, PN.out, ?_⟩
            exact (K.out.2.2.1.trans (BF.out.mono hsz)).grown (grownBy_setCells _ _ _ _) (by have := BF.out.size; omega) (fun b hb => by cases hb; exact Nat.le_refl _)
    · obtain rfl : k = l.length := by omega
      have hr := (H.out.2.1.below hb).mono (fun k hk => show Plus F w wr k from .inl hk)
      have hfin := HitsF.of_own (F := Plus F w wr) (n := l.length) hown (fun b hb => .inr (hown.lt b hb)) (hput.rows O.out.1 O.out.2.1 hr)
      have FI := Lib.hid (And.intro hfin hb)
      clear hown hput hb hr hfin
      go_wp2_with fail
      go_ret
      exact ⟨_, rfl, FI.out.1, FI.out.2⟩

end Go.Proofs.YtpjbkaibgajpcaaGreat

namespace Go.Proofs.YtpjbkaibgajpcaaGreat
open Go.RowKit
set_option maxRecDepth 20000

def NewBut (w : World) (G : Nat → Prop) (l : List Hz) (e : Ending) (w' : World) : Prop :=
  ∃ v rs, e = .returned v ∧ w'.ownsRow w.heap.size 38 3 v rs.length (flat3 rs) ∧ Rows3 w' G rs l ∧ Below w.heap.size w w'

theorem rows_one {w : World} {G : Nat → Prop} {rs : List Hv} {l : List Hz} (h : Rows3 w G rs l) : ∀ r ∈ rs, r.vec.oneCell' = true := by
  intro r hr
  obtain ⟨i, hi, rfl⟩ := List.mem_iff_getElem.1 hr
  have := (h.each i hi (by rw [← h.len]; exact hi)).2.2.1
  obtain ⟨p, cap, e, -⟩ := this.slice
  rw [e]; rfl

theorem SrcAt.sub {w : World} {b off m c : Nat} {rs : List Hv} (h : SrcAt w (some ⟨b, off, none⟩) m c 3 (flat3 rs)) (a k : Nat) (c' : Nat) (hk : a + k ≤ rs.length) : SrcAt w (some ⟨b, off + a * 3, none⟩) k c' 3 (flat3 ((rs.drop a).take k)) := by
  refine ⟨by rw [flat3_length, List.length_take, List.length_drop]; rw [Nat.min_eq_left (by omega)], by simp, fun ad ha j u hj => ?_⟩
  obtain rfl := Option.some.inj ha
  have hjl := (List.getElem?_eq_some_iff.1 hj).1
  rw [flat3_length, List.length_take, List.length_drop, Nat.min_eq_left (by omega)] at hjl
  rw [← flat3_take, ← flat3_drop, List.getElem?_take, if_pos (by omega), List.getElem?_drop] at hj
  have := h.cells _ rfl _ _ hj
  rw [Addr.add_lit] at this ⊢
  rw [Nat.add_assoc]; exact this

theorem but_end {w w' : World} {G : Nat → Prop} {rs : List Hv} {l : List Hz} {k n : Nat} {v : Value} (hr : Rows3 w G rs l) (hk : k < rs.length) (hlen : rs.length = l.length) (ho : w'.ownsRow w.heap.size 38 3 v n (flat3 ((rs.drop 0).take k) ++ flat3 ((rs.drop (k + 1)).take (l.length - (k + 1))))) (hn : n = k + (l.length - (k + 1))) (hb : Below w.heap.size w w') : NewBut w G (l.eraseIdx k) (.returned v) w' := by
  have e : (rs.drop 0).take k ++ (rs.drop (k + 1)).take (l.length - (k + 1)) = rs.eraseIdx k := by
    rw [List.eraseIdx_eq_take_drop_succ, List.drop_zero, List.take_of_length_le (l := rs.drop (k + 1)) (by rw [List.length_drop]; omega)]
  rw [← flat3_append, e] at ho
  have hl : (rs.eraseIdx k).length = n := by rw [List.length_eraseIdx_of_lt hk]; omega
  refine ⟨v, rs.eraseIdx k, rfl, by rw [hl]; exact ho, ?_, hb⟩
  have h1 := hr.below hb
  refine ⟨by rw [List.length_eraseIdx, List.length_eraseIdx, hlen], fun i i1 i2 => ?_⟩
  rw [List.getElem_eraseIdx, List.getElem_eraseIdx]
  split
  · exact h1.each i _ _
  · exact h1.each (i + 1) _ _

set_option maxHeartbeats 4000000 in
theorem without (l : List Hz) (k : Nat) (hk : k < l.length) (hn : l.length ≤ 1000000) (G : Nat → Prop) (v : Value) (w : World) (h : HitsF w G v l) :
    Calls Tryz.prog 122 #[v, .int .i64 k] w (NewBut w G (l.eraseIdx k)) := by
  obtain ⟨p, cap, rfl, hc1, hc2, -, -⟩ := id h
  obtain ⟨rs, hrs, hsrc, hel⟩ := h.rows
  obtain ⟨b, off, -, -, -, rfl, -⟩ := hel k hk
  have hlen := hrs.len
  have S1 := Lib.hid (hsrc.sub 0 k cap (by omega))
  have S2 := Lib.hid (hsrc.sub (k + 1) (l.length - (k + 1)) (cap - (k + 1)) (by omega))
  have ONE := Lib.hid (rows_one hrs)
  have RR := Lib.hid hrs
  have k0 : (0 : Int) ≤ (k : Int) := by omega
  have k1 : (k : Int) ≤ (cap : Int) := by omega
  have k2 : (k : Int) < (l.length : Int) := by omega
  have k3 : ((k : Int) + 1) ≤ (l.length : Int) := by omega
  have k4 : IntKind.i64.wrap ((k : Int) + 1) = (k : Int) + 1 := by simp [IntKind.wrap, IntKind.signed, IntKind.bits] <;> omega
  have k5 : (0 : Int) ≤ (k : Int) + 1 := by omega
  have k6 : ((k : Int) + 1).toNat = k + 1 := by omega
  clear h hrs hsrc hel
  go_enter Tryz.func122, Tryz.ntmps122
  go_wp2_with fail
  obtain ⟨W0, hW0⟩ : ∃ W0, W0 = w.drew := ⟨_, rfl⟩
  have hb0 : Below w.heap.size w W0 := by rw [hW0]; exact (Below.refl _ _).drew
  have HW := Lib.hid hW0
  clear hW0
  by_cases hcap : cap = k + 1
  · subst hcap
    have k7 : (k : Int) ≤ (k : Int) + 1 := by omega
    replace S2 : Hid (SrcAt w (some ⟨b, off, none⟩) 0 0 3 (flat3 ((rs.drop (k + 1)).take (l.length - (k + 1))))) := by
      have e : l.length - (k + 1) = 0 := by omega
      rw [e]
      exact ⟨by simp [flat3], by simp, fun a _ j u hj => by simp [flat3] at hj⟩
    refine region_go (fun _ => True) (by kernel_rfl) ?hS0 (fun hH => ?_)
    case hS0 =>
      trivial
    rw [← HW.out]
    refine kY 1 hH ?_
    repeat simp only [Act.put, uA1, uB1, uC1]
    refine kY 2 hH ?_
    repeat simp only [Act.put, uA1, uB1, uC1]
    refine kY 3 hH ?_
    repeat simp only [Act.put, uA1, uB1, uC1]
    refine kY 5 hH ?_
    repeat simp only [Act.put, uA1, uB1, uC1]
    refine kY 6 hH ?_
    repeat simp only [Act.put, uA1, uB1, uC1]
    refine kY 7 hH ?_
    repeat simp only [Act.put, uA1, uB1, uC1]
    refine kY 8 hH ?_
    repeat simp only [Act.put, uA1, uB1, uC1]
    refine spk 0 rfl (by decide +kernel) (by rfl) (fun K' hK => ?_)
    go_simp
    have hr0 := own_empty W0 w.heap.size 38 3 hb0.size
    have hb1 := hb0.alloc hb0.size (.cells #[] 38)
    try dsimp only
    refine hK.out _ _ ?hS (fun hH' => ?_)
    case hS =>
      trivial
    clear hK K' hH; have hH := hH'; clear hH'; repeat simp only [Act.put, uA1, uB1, uC1]
    refine spk 4 rfl (by decide +kernel) (by rfl) (fun K' hK => ?_)
    obtain ⟨q2, n2, c2, w2, hrun2, hr2, hg2, -⟩ := run_app rowHit hr0 hb1.size (S1.out.below hb1) (flat3_one fun r hr => ONE.out r (List.mem_of_mem_drop (List.mem_of_mem_take hr))) (by simp [maxLen]; omega) (by omega)
    refine wp_append_eq hrun2 _ _ rfl rfl rfl ?_
    have hb2 := hb1.grown hg2 hb1.size (fun b hb => (hr0.lt b hb).1)
    simp only [Nat.zero_add, List.nil_append] at hr2
    try dsimp only
    refine hK.out _ _ ?hS (fun hH' => ?_)
    case hS =>
      trivial
    clear hK K' hH; have hH := hH'; clear hH'; repeat simp only [Act.put, uA1, uB1, uC1]
    refine spk 9 rfl (by decide +kernel) (by rfl) (fun K' hK => ?_)
    obtain ⟨q3, n3, c3, w3, hrun3, hr3, hg3, -⟩ := run_app rowHit hr2 hb2.size (S2.out.below hb2) (flat3_one fun r hr => ONE.out r (List.mem_of_mem_drop (List.mem_of_mem_take hr))) (by simp [maxLen]; omega) (by omega)
    refine wp_append_eq hrun3 _ _ rfl rfl rfl ?_
    have hb3 := hb2.grown hg3 hb2.size (fun b hb => (hr2.lt b hb).1)
    try dsimp only
    refine hK.out _ _ ?hS (fun hH' => ?_)
    case hS =>
      trivial
    clear hK K' hH; have hH := hH'; clear hH'; repeat simp only [Act.put, uA1, uB1, uC1]
    refine kY 10 hH ?_
    repeat simp only [Act.put, uA1, uB1, uC1]
    refine wpAnyH_done (by decide +kernel) ?_ _
    have E := Lib.hid (but_end RR.out (by omega) hlen hr3 (by omega) hb3)
    clear hr0 hr2 hr3 hb0 hb1 hb2 hb3 hH hrun2 hg2 hrun3 hg3
    go_wp2_with fail
    go_ret
    exact E.out
  · have hcap' : ¬ ((cap : Int) = (k : Int) + 1) := by omega
    refine region_go (fun _ => True) (by kernel_rfl) ?hS0 (fun hH => ?_)
    case hS0 =>
      trivial
    rw [← HW.out]
    refine kY 1 hH ?_
    repeat simp only [Act.put, uA1, uB1, uC1]
    refine kY 2 hH ?_
    repeat simp only [Act.put, uA1, uB1, uC1]
    refine kY 3 hH ?_
    repeat simp only [Act.put, uA1, uB1, uC1]
    refine kY 5 hH ?_
    repeat simp only [Act.put, uA1, uB1, uC1]
    refine kY 6 hH ?_
    repeat simp only [Act.put, uA1, uB1, uC1]
    refine kY 7 hH ?_
    repeat simp only [Act.put, uA1, uB1, uC1]
    refine kY 8 hH ?_
    repeat simp only [Act.put, uA1, uB1, uC1]
    refine spk 0 rfl (by decide +kernel) (by rfl) (fun K' hK => ?_)
    go_simp
    have hr0 := own_empty W0 w.heap.size 38 3 hb0.size
    have hb1 := hb0.alloc hb0.size (.cells #[] 38)
    try dsimp only
    refine hK.out _ _ ?hS (fun hH' => ?_)
    case hS =>
      trivial
    clear hK K' hH; have hH := hH'; clear hH'; repeat simp only [Act.put, uA1, uB1, uC1]
    refine spk 4 rfl (by decide +kernel) (by rfl) (fun K' hK => ?_)
    obtain ⟨q2, n2, c2, w2, hrun2, hr2, hg2, -⟩ := run_app rowHit hr0 hb1.size (S1.out.below hb1) (flat3_one fun r hr => ONE.out r (List.mem_of_mem_drop (List.mem_of_mem_take hr))) (by simp [maxLen]; omega) (by omega)
    refine wp_append_eq hrun2 _ _ rfl rfl rfl ?_
    have hb2 := hb1.grown hg2 hb1.size (fun b hb => (hr0.lt b hb).1)
    simp only [Nat.zero_add, List.nil_append] at hr2
    try dsimp only
    refine hK.out _ _ ?hS (fun hH' => ?_)
    case hS =>
      trivial
    clear hK K' hH; have hH := hH'; clear hH'; repeat simp only [Act.put, uA1, uB1, uC1]
    refine spk 9 rfl (by decide +kernel) (by rfl) (fun K' hK => ?_)
    obtain ⟨q3, n3, c3, w3, hrun3, hr3, hg3, -⟩ := run_app rowHit hr2 hb2.size (S2.out.below hb2) (flat3_one fun r hr => ONE.out r (List.mem_of_mem_drop (List.mem_of_mem_take hr))) (by simp [maxLen]; omega) (by omega)
    refine wp_append_eq hrun3 _ _ rfl rfl rfl ?_
    have hb3 := hb2.grown hg3 hb2.size (fun b hb => (hr2.lt b hb).1)
    try dsimp only
    refine hK.out _ _ ?hS (fun hH' => ?_)
    case hS =>
      trivial
    clear hK K' hH; have hH := hH'; clear hH'; repeat simp only [Act.put, uA1, uB1, uC1]
    refine kY 10 hH ?_
    repeat simp only [Act.put, uA1, uB1, uC1]
    refine wpAnyH_done (by decide +kernel) ?_ _
    have E := Lib.hid (but_end RR.out (by omega) hlen hr3 (by omega) hb3)
    clear hr0 hr2 hr3 hb0 hb1 hb2 hb3 hH hrun2 hg2 hrun3 hg3
    go_wp2_with fail
    go_ret
    exact E.out

end Go.Proofs.YtpjbkaibgajpcaaGreat

namespace Go.Proofs.YtpjbkaibgajpcaaGreat
open Go.RowKit
set_option maxRecDepth 20000

structure RefOwn (w : World) (c : Nat) (most : Int) (v : Value) (G : Nat → Prop) (r : List Hz) : Prop where
  obj : w.heap[c]? = some (.cells #[.int .i64 most, v] 136 (0, 0))
  hits : HitsF w G v r
  gc : ¬ G c
  ghi : ∀ k, G k → k < w.heap.size

theorem RefOwn.below {w w' : World} {c : Nat} {most : Int} {v : Value} {G : Nat → Prop} {r : List Hz} (h : RefOwn w c most v G r) (hb : Below w.heap.size w w') : RefOwn w' c most v G r :=
  ⟨by rw [hb.block _ (lt_block h.obj)]; exact h.obj, h.hits.below hb, h.gc, fun k hk => by have := h.ghi k hk; have := hb.size; omega⟩

theorem RefOwn.cells {w : World} {c : Nat} {most : Int} {v : Value} {G : Nat → Prop} {r : List Hz} (h : RefOwn w c most v G r) : w.cell? ⟨c, 0, none⟩ = some (.int .i64 most) ∧ w.cell? ⟨c, 1, none⟩ = some v ∧ w.frozen? ⟨c, 1, none⟩ = false :=
  ⟨by simp [World.cell?, h.obj], by simp [World.cell?, h.obj], by simp [World.frozen?, h.obj]⟩

theorem RefOwn.agree {w w' : World} {c : Nat} {most : Int} {v : Value} {G : Nat → Prop} {r : List Hz} (h : RefOwn w c most v G r) (hc : w'.heap[c]? = w.heap[c]?) (ha : Agree G w w') (hs : w.heap.size ≤ w'.heap.size) : RefOwn w' c most v G r :=
  ⟨by rw [hc]; exact h.obj, h.hits.agree ha, h.gc, fun k hk => by have := h.ghi k hk; omega⟩

set_option maxHeartbeats 4000000 in
theorem worst (c : Nat) (most : Int) (v : Value) (G : Nat → Prop) (r : List Hz) (w : World) (h : RefOwn w c most v G r) (hd : Ids r) (hne : 0 < r.length) :
    Calls Tryz.prog 123 #[.pointer (some ⟨c, 0, none⟩)] w fun e w' => (∃ i, ∃ hi : i < r.length, e = .returned (.int .i64 i) ∧ ∀ j (hj : j < r.length), j ≠ i → near r[j] r[i] = true) ∧ Below w.heap.size w w' := by
  obtain ⟨p, cap, rfl, hcap, hbig, -, -⟩ := id h.hits
  obtain ⟨c0, c1, -⟩ := h.cells
  have hl9 : r.length ≤ 9223372036854775807 := by omega
  have H := Lib.hid h
  have D := Lib.hid hd
  clear h hd hcap hbig
  go_enter Tryz.func123, Tryz.ntmps123
  go_wp2_with fail
  go_loopg [3, 11] r.length (fun q' u i wr => ∃ (k j : Nat) (hj : j < r.length), q' = r.length - k ∧ k ≤ r.length ∧ i = .int .i64 k ∧ u = .int .i64 j ∧ (∀ t (ht : t < r.length), t < k → t ≠ j → near r[t] r[j] = true) ∧ (k ≤ j → j = 0) ∧ Below w.heap.size w wr)
  case atStart => exact ⟨0, 0, hne, rfl, by omega, rfl, rfl, fun t _ h => absurd h (by omega), fun _ => rfl, Below.refl _ _⟩
  case round =>
    obtain ⟨k, j, hj, rfl, hk, rfl, rfl, hall, hkj, hb⟩ := hrel
    by_cases hlt : k < r.length
    · obtain ⟨rs', -, -, hel⟩ := (H.out.hits.below hb).rows
      obtain ⟨b, off, up, uc, -, rfl, -, -, d0, d1, d2, -, -⟩ := hel k hlt
      obtain ⟨b', off', up', uc', -, hp', -, -, e0, e1, e2, -, -⟩ := hel j hj
      obtain ⟨rfl, rfl⟩ : b = b' ∧ off = off' := by simpa using hp'
      have a1 := below_cells hb c1
      have A := Lib.hid (And.intro hall (And.intro hkj hb))
      have hsz := hb.size
      have j0 : (0 : Int) ≤ (j : Int) := by omega
      have j1 : (j : Int) < (r.length : Int) := by omega
      clear hall hkj hb hel hp'
      go_wp2_with fail
      obtain ⟨W0, hW0⟩ : ∃ W0, W0 = (wr.alloc (Obj.cells #[Value.int IntKind.u64 r[k].id, Value.int IntKind.u64 r[k].dist, Value.slice up r[k].vec.length uc] 38)).drew := ⟨_, rfl⟩
      have b0 : Below wr.heap.size wr W0 := by rw [hW0]; exact ((Below.refl _ _).alloc (Nat.le_refl _) _).drew
      have x0 : W0.cell? ⟨wr.heap.size, 0, none⟩ = some (.int .u64 r[k].id) := by rw [hW0]; go_simp
      have x1 : W0.cell? ⟨wr.heap.size, 1, none⟩ = some (.int .u64 r[k].dist) := by rw [hW0]; go_simp
      have x2 : W0.cell? ⟨wr.heap.size, 2, none⟩ = some (.slice up r[k].vec.length uc) := by rw [hW0]; go_simp
      have HW := Lib.hid hW0
      replace a1 := below_cells b0 a1
      replace e0 := below_cells b0 e0
      replace e1 := below_cells b0 e1
      replace e2 := below_cells b0 e2
      clear hW0 d0 d1 d2
      refine region_go (fun w' => w'.cell? ⟨c, 1, none⟩ = some (.slice (some ⟨b, off, none⟩) r.length cap) ∧ w'.cell? ⟨b, off + j * 3, none⟩ = some (.int .u64 r[j].id) ∧ w'.cell? ⟨b, off + j * 3 + 1, none⟩ = some (.int .u64 r[j].dist) ∧ w'.cell? ⟨b, off + j * 3 + 1 + 1, none⟩ = some (.slice up' r[j].vec.length uc') ∧ w'.cell? ⟨wr.heap.size, 0, none⟩ = some (.int .u64 r[k].id) ∧ w'.cell? ⟨wr.heap.size, 1, none⟩ = some (.int .u64 r[k].dist) ∧ w'.cell? ⟨wr.heap.size, 2, none⟩ = some (.slice up r[k].vec.length uc)) (by kernel_rfl) ?hS0 (fun hH => ?_)
      case hS0 =>
        rw [← HW.out]; exact ⟨a1, e0, e1, e2, x0, x1, x2⟩
      rw [← HW.out] at hH ⊢
      refine kY 0 hH ?_
      repeat simp only [Act.put, uA1, uB1, uC1]
      refine kY 1 hH ?_
      repeat simp only [Act.put, uA1, uB1, uC1]
      refine kY 2 hH ?_
      repeat simp only [Act.put, uA1, uB1, uC1]
      refine kY 3 hH ?_
      repeat simp only [Act.put, uA1, uB1, uC1]
      refine kY 4 hH ?_
      repeat simp only [Act.put, uA1, uB1, uC1]
      refine kY 5 hH ?_
      repeat simp only [Act.put, uA1, uB1, uC1]
      refine kY 6 hH ?_
      repeat simp only [Act.put, uA1, uB1, uC1]
      refine kY 7 hH ?_
      repeat simp only [Act.put, uA1, uB1, uC1]
      refine spk 8 rfl (by decide +kernel) (by rfl) (fun K' hK => ?_)
      go_simp
      refine (refNearer r[j].id r[j].dist r[k].id r[k].dist _ _ _).mono ?_
      rintro e w4 ⟨rfl, hb4⟩
      try dsimp only
      refine hK.out _ _ ?hS (fun hH' => ?_)
      case hS =>
        exact ⟨below_cells hb4 a1, below_cells hb4 e0, below_cells hb4 e1, below_cells hb4 e2, below_cells hb4 x0, below_cells hb4 x1, below_cells hb4 x2⟩
      clear hK K' hH; have hH := hH'; clear hH'; repeat simp only [Act.put, uA1, uB1, uC1]
      refine wpAnyH_done (by decide +kernel) ?_ _
      have B4 := Lib.hid (A.out.2.2.trans ((b0.trans (hb4.mono b0.size)).mono hsz))
      have hkw := lt_of_cell hH.2.2.2.2.1
      have ht2 : r.length - (k + 1) < r.length - k := by omega
      clear hH hb4 a1 e0 e1 e2 x0 x1 x2 b0 hkw
      cases hq : nearB r[j].id r[j].dist r[k].id r[k].dist
      · go_wp2_with fail
        go_roundg (r.length - (k + 1))
        case measure => omega
        case rel =>
          refine ⟨k + 1, j, hj, rfl, by omega, by go_num, rfl, fun t ht htk hne => ?_, fun h => A.out.2.1 (by omega), B4.out⟩
          by_cases e : t = k
          · subst e
            have hid : r[t].id ≠ r[j].id := by
              rcases Nat.lt_or_ge t j with h | h
              · exact List.pairwise_iff_getElem.1 D.out t j ht hj h
              · exact (List.pairwise_iff_getElem.1 D.out j t hj ht (by omega)).symm
            rcases near_total hid with h | h
            · exact h
            · rw [show near r[j] r[t] = false from hq] at h; cases h
          · exact A.out.1 t ht (by omega) hne
      · go_wp2_with fail
        go_roundg (r.length - (k + 1))
        case measure => omega
        case rel =>
          refine ⟨k + 1, k, hlt, rfl, by omega, by go_num, rfl, fun t ht htk hne => ?_, fun h => by omega, B4.out⟩
          by_cases e : t = j
          · subst e; exact hq
          · exact near_trans (A.out.1 t ht (by omega) e) hq
    · obtain rfl : r.length = k := by omega
      have BF := Lib.hid (And.intro hall hb)
      clear hall hb
      go_wp2_with fail
      go_ret
      exact ⟨⟨j, hj, rfl, fun t ht hne => BF.out.1 t ht ht hne⟩, BF.out.2⟩

end Go.Proofs.YtpjbkaibgajpcaaGreat

namespace Go.Proofs.YtpjbkaibgajpcaaGreat
open Go.RowKit
set_option maxRecDepth 20000

section
variable {P : Program} {ops : Array Oper} {Q : Exit → Act → World → Prop} {md : Region.Mode} {S : World → Prop} {n : Nat}

def anyBut (P : Program) (md : Region.Mode) (ops : Array Oper) (Q : Exit → Act → World → Prop) (S : World → Prop) (n : Nat) : Nat → Array Bool → Act → World → Prop
  | 0, listed, a, w => Region.ready md ops listed = [] ∧ Q .normal a w
  | k + 1, listed, a, w => (Region.ready md ops listed = [] → Q .normal a w) ∧ ∀ i ∈ Region.ready md ops listed, wpOp P ops Q i (fun a' w' => (i ≠ n → S w') ∧ anyBut P md ops Q S n k (listed.setIfInBounds i true) a' w') a w

theorem anyBut_any : ∀ (k : Nat) (listed : Array Bool) (a : Act) (w : World), anyBut P md ops Q S n k listed a w → wpAny P md ops Q k listed a w
  | 0, _, _, _, h => h
  | k + 1, _, _, _, h => ⟨h.1, fun i hi => wpOp_mono (fun _ _ h' => anyBut_any k _ _ _ h'.2) (h.2 i hi)⟩

def waitsFor (md : Region.Mode) (ops : Array Oper) (n i : Nat) : Bool := match ops[n]? with | none => false | some o => o.after.toList.any fun e => Region.binds md e && e.on == i

theorem waits_not {i : Nat} {listed : Array Bool} (hw : waitsFor md ops n i = true) (hi : i ∈ Region.ready md ops listed) (hn : n ∈ Region.ready md ops listed) : False := by
  obtain ⟨-, o, ho, hall⟩ := mem_ready.1 hn
  simp only [waitsFor, ho, List.any_eq_true, Bool.and_eq_true, beq_iff_eq] at hw
  obtain ⟨e, he, hb, rfl⟩ := hw
  have h1 := hall e (by simpa using he) hb
  have h0 := (mem_ready.1 hi).1
  rcases Nat.lt_or_ge e.on listed.size with h' | h'
  · simp [h'] at h0 h1; rw [h0] at h1; cases h1
  · simp [Array.getElem?_eq_none h'] at h1

theorem anyBut_first {i : Nat} {oi : Oper} {v : Value} (hi : ops[i]? = some oi) (hsel : ∀ (j : Nat) (o : Oper) cs b, ops[j]? = some o → o.op ≠ .select cs b)
    (hQ : ∀ c a w, Q (.panic c) (a.put oi.dst v) w → Q (.panic c) a w) (hwn : waitsFor md ops n i = true) : ∀ (k : Nat) (listed : Array Bool) (a : Act) (w : World),
      (∀ j oj, ops[j]? = some oj → j ≠ i → listed.getD j true = false → (∀ e ∈ oj.after, Region.binds md e = true → e.on ≠ i) → oi.apart ops oj = true) →
      i ∈ Region.ready md ops listed → YieldsIf P ops S oi v a → S w →
      anyBut P md ops Q S n k (listed.setIfInBounds i true) (a.put oi.dst v) w → anyBut P md ops Q S n (k + 1) listed a w := by
  intro k
  induction k with
  | zero =>
    intro listed a w _ hr hy hS H
    refine ⟨fun h => (by rw [h] at hr; cases hr), fun j hj => ?_⟩
    by_cases hji : j = i
    · subst hji; exact hy.wpOp hi hS ⟨fun _ => hS, H⟩
    · have := ready_mono hj hji
      rw [H.1] at this
      cases this
  | succ k ih =>
    intro listed a w hfree hr hy hS H
    refine ⟨fun h => (by rw [h] at hr; cases hr), fun j hj => ?_⟩
    by_cases hji : j = i
    · subst hji; exact hy.wpOp hi hS ⟨fun _ => hS, H⟩
    · have hjn : j ≠ n := by rintro rfl; exact waits_not hwn hr hj
      obtain ⟨hjun, oj, hoj, hall⟩ := mem_ready.1 hj
      have hnot : ∀ e ∈ oj.after, Region.binds md e = true → e.on ≠ i := fun e he hb heq => by
        have h1 := hall e he hb
        have h0 := (mem_ready.1 hr).1
        rw [heq] at h1
        rcases Nat.lt_or_ge i listed.size with h' | h'
        · simp [h'] at h0 h1; rw [h0] at h1; cases h1
        · simp [Array.getElem?_eq_none h'] at h1
      have h2 := wpOp_putIf hoj (hfree j oj hoj hji hjun hnot) (fun cs b => hsel i oi cs b hi) (fun cs b => hsel j oj cs b hoj) hQ hy (H.2 j (ready_mono hj hji))
      refine wpOp_mono (fun a' w' h3 => ⟨h3.2.1, ih (listed.setIfInBounds j true) a' w' (fun k ok hk hki hun hno => hfree k ok hk hki ?_ hno) (ready_mono hr (Ne.symm hji)) h3.1 (h3.2.1 hjn) ?_⟩) h2
      · by_cases hjk : j = k
        · subst hjk; exact hjun
        · rw [getD_set_ne true hjk] at hun; exact hun
      · rw [Array.setIfInBounds_comm _ _ hji]
        exact h3.2.2

def canTakeN (md : Region.Mode) (ops : Array Oper) (listed : Array Bool) (n i : Nat) : Bool := canTake md ops listed i && waitsFor md ops n i

theorem tkYN (i : Nat) {oi : Oper} {v : Value} {k : Nat} {listed : Array Bool} {a : Act} {w : World} (hS : S w) (hi : ops.toList[i]? = some oi) (hQ : ∀ c a w, Q (.panic c) (a.put oi.dst v) w → Q (.panic c) a w)
    (hc : canTakeN md ops listed n i = true) (hw : Region.wanted oi (yielded ops a.tmps) = true) (hy : ∀ w, S w → (execOp a.eval oi).run P w = .ok (.value v) w)
    (h : anyBut P md ops Q S n k (listed.setIfInBounds i true) (a.put oi.dst v) w) : anyBut P md ops Q S n (k + 1) listed a w := by
  simp only [canTakeN, canTake, Bool.and_eq_true] at hc
  have hi' : ops[i]? = some oi := by rw [← hi, Array.getElem?_toList]
  exact anyBut_first hi' (Region.noSelect_spec hc.1.1.1) hQ hc.2 k listed a w (Region.free_spec hi' hc.1.1.2) (by simpa using hc.1.2) (.inl ⟨hw, hy⟩) hS h

theorem kYN (i : Nat) {oi : Oper} {v : Value} {k : Nat} {listed : Array Bool} {a : Act} {w : World} (hS : S w) (h : anyBut P md ops Q S n k (listed.setIfInBounds i true) (a.put oi.dst v) w)
    (hi : ops.toList[i]? = some oi := by exact rfl) (hQ : ∀ c a w, Q (.panic c) (a.put oi.dst v) w → Q (.panic c) a w := by exact fun _ _ _ h => h) (hc : canTakeN md ops listed n i = true := by decide +kernel) (hw : Region.wanted oi (yielded ops a.tmps) = true := by rfl) (hy : ∀ w, S w → (execOp a.eval oi).run P w = .ok (.value v) w := by intro w hS; (try dsimp only at hS); go_simp; try with_reducible rfl) : anyBut P md ops Q S n (k + 1) listed a w :=
  tkYN i hS hi hQ hc hw hy h

theorem step_to {i : Nat} {oi : Oper} {k : Nat} {listed : Array Bool} {a : Act} {w : World} (hi : ops.toList[i]? = some oi) (hw : Region.wanted oi (yielded ops a.tmps) = true) (_hin : i ≠ n)
    (h : ∀ K' : Act → World → Prop, Shut (∀ a w, S w → (S w → anyBut P md ops Q S n k (listed.setIfInBounds i true) a w) → K' a w) → oi.wp P a w K' Q) :
    wpOp P ops Q i (fun a' w' => (i ≠ n → S w') ∧ anyBut P md ops Q S n k (listed.setIfInBounds i true) a' w') a w := by
  refine wpOp_step (by rw [← hi, Array.getElem?_toList]) fun K' hK => ?_
  rw [if_pos hw]
  exact h K' fun a w hS hW => hK a w ⟨fun _ => hS, hW hS⟩

theorem spkN (i : Nat) {oi : Oper} {k : Nat} {listed : Array Bool} {a : Act} {w : World} (hi : ops.toList[i]? = some oi) (hin : i ≠ n)
    (hr : Region.ready md ops listed = [i]) (hw : Region.wanted oi (yielded ops a.tmps) = true)
    (h : ∀ K' : Act → World → Prop, Shut (∀ a w, S w → (S w → anyBut P md ops Q S n k (listed.setIfInBounds i true) a w) → K' a w) → oi.wp P a w K' Q) : anyBut P md ops Q S n (k + 1) listed a w := by
  refine ⟨fun h0 => (by rw [h0] at hr; cases hr), fun j hj => ?_⟩
  rw [hr] at hj
  obtain rfl := List.mem_singleton.1 hj
  exact step_to hi hw hin h

theorem spkL {oi : Oper} {k : Nat} {listed : Array Bool} {a : Act} {w : World} (hi : ops.toList[n]? = some oi)
    (hr : Region.ready md ops listed = [n]) (hw : Region.wanted oi (yielded ops a.tmps) = true)
    (h : ∀ K' : Act → World → Prop, Shut (∀ a w, anyBut P md ops Q S n k (listed.setIfInBounds n true) a w → K' a w) → oi.wp P a w K' Q) : anyBut P md ops Q S n (k + 1) listed a w := by
  refine ⟨fun h0 => (by rw [h0] at hr; cases hr), fun j hj => ?_⟩
  rw [hr] at hj
  obtain rfl := List.mem_singleton.1 hj
  refine wpOp_step (by rw [← hi, Array.getElem?_toList]) fun K' hK => ?_
  rw [if_pos hw]
  exact h K' fun a w hW => hK a w ⟨fun h => absurd rfl h, hW⟩

theorem spBN (i j : Nat) {oi oj : Oper} {k : Nat} {listed : Array Bool} {a : Act} {w : World} (hi : ops.toList[i]? = some oi) (hj : ops.toList[j]? = some oj) (hin : i ≠ n) (hjn : j ≠ n)
    (hr : Region.ready md ops listed = [i, j]) (hwi : Region.wanted oi (yielded ops a.tmps) = true) (hwj : Region.wanted oj (yielded ops a.tmps) = true)
    (h : ∀ K' : Act → World → Prop, Shut (∀ a w, S w → (S w → anyBut P md ops Q S n k (listed.setIfInBounds i true) a w) → K' a w) → oi.wp P a w K' Q)
    (h' : ∀ K' : Act → World → Prop, Shut (∀ a w, S w → (S w → anyBut P md ops Q S n k (listed.setIfInBounds j true) a w) → K' a w) → oj.wp P a w K' Q) : anyBut P md ops Q S n (k + 1) listed a w := by
  refine ⟨fun h0 => (by rw [h0] at hr; cases hr), fun q hq => ?_⟩
  rw [hr] at hq
  rcases List.mem_cons.1 hq with rfl | hq
  · exact step_to hi hwi hin h
  · obtain rfl := List.mem_singleton.1 hq
    exact step_to hj hwj hjn h'

theorem anyBut_done {listed : Array Bool} {a : Act} {w : World} (hr : Region.ready md ops listed = []) (h : Q .normal a w) : ∀ k, anyBut P md ops Q S n k listed a w
  | 0 => ⟨hr, h⟩
  | _ + 1 => ⟨fun _ => h, by rw [hr]; simp⟩

theorem region_goN {id : Nat} {a : Act} {w : World} (n : Nat) (S : World → Prop) (hm : P.follows .mixedOrders = true) (hS : S w.drew)
    (h : S w.drew → anyBut P .any ops Q S n ops.size (Array.replicate ops.size false) a w.drew) : (Code.region id ops true).wp P Q a w :=
  wp_region_any hm (anyBut_any _ _ _ _ (h hS))
end

end Go.Proofs.YtpjbkaibgajpcaaGreat
