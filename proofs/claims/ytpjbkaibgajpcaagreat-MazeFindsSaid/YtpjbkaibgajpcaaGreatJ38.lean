/- The document's Sort, Hits, Run once more: what they tell is a row of their own. -/
import Derived.Test.YtpjbkaibgajpcaaGreatJ17
import Derived.Test.YtpjbkaibgajpcaaGreatJ35
namespace Go.Proofs.YtpjbkaibgajpcaaGreat
open Go.RowKit
set_option maxRecDepth 20000

def SortToT (w : World) (F : Nat → Prop) (m : List Hz) (e : Ending) (w' : World) : Prop :=
  ∃ v rs, e = .returned v ∧ w'.ownsRow w.heap.size 38 3 v m.length (flat3 rs) ∧ Rows3 w' (Plus F w w') rs m ∧ Below w.heap.size w w'

def RefTellsT (w0 : World) (L : List Hz) (n : Nat) (e : Ending) (w' : World) : Prop :=
  ∃ v rs, e = .returned (.tuple #[v, .int .i64 n]) ∧ w'.ownsRow w0.heap.size 38 3 v L.length (flat3 rs) ∧ Rows3 w' (fun _ => False) rs L ∧ Below w0.heap.size w0 w'

theorem rows_bare {w : World} {F G : Nat → Prop} {rs : List Hv} {l : List Hz} (h : Rows3 w F rs l) (hb : ∀ y ∈ l, y.vec = []) : Rows3 w G rs l :=
  ⟨h.len, fun i h1 h2 => by
    obtain ⟨a, b, c, -⟩ := h.each i h1 h2
    exact ⟨a, b, c, fun h0 => by rw [hb _ (List.getElem_mem h2)] at h0; simp at h0⟩⟩

set_option maxHeartbeats 4000000 in
theorem sortT (l m : List Hz) (hs : Sorted m) (hd : Ids l) (hp : m.Perm l) (hn : l.length ≤ 1000000) (v : Value) (F : Nat → Prop) (w : World) (h : HitsF w F v l) :
    Calls Tryz.prog 52 #[v] w (SortToT w F m) := by
  obtain ⟨p, cap, rfl, -, -, -, -⟩ := id h
  obtain ⟨rl, hrl, -, hel⟩ := h.rows
  have H := Lib.hid (And.intro h (And.intro hrl hel))
  have O := Lib.hid (And.intro hs (And.intro hp hd))
  have hlen := hrl.len
  obtain ⟨i0, hi0, hz0, hz1, hz2⟩ := info_parts rowHit.info
  obtain ⟨w1, hmk, hown1, hg1⟩ := run_make_full (P := Tryz.prog) w w.heap.size 30 38 i0 _ 3 rowHit.ty hi0 hz0 hz1 .i64 .i64 l.length (by rw [hz2]; omega) (by simp [maxLen]; omega) (Nat.le_refl _)
  rw [made_flat3] at hown1
  have M := Lib.hid (And.intro hown1 ((Below.refl w.heap.size w).grown hg1 (Nat.le_refl _) (by simp)))
  clear h hs hp hd hrl hel hi0 hz0 hz1 hz2 hown1 hg1
  go_enter Tryz.func52, Tryz.ntmps52
  go_wp2_with fail
  clear hmk
  go_loopg [14] l.length (fun q' i wr => ∃ (k : Nat) (rs : List Hv), q' = l.length - k ∧ k ≤ l.length ∧ i = .int .i64 k ∧ wr.ownsRow w.heap.size 38 3 (.slice (some ⟨w.heap.size, 0, none⟩) l.length l.length) l.length (flat3 rs) ∧ PutS l rl rs k ∧ Below w.heap.size w wr)
  case atStart => exact ⟨0, _, rfl, by omega, rfl, M.out.1, ⟨by simp, fun j hj hj' h => absurd h (by omega)⟩, M.out.2⟩
  case round =>
    obtain ⟨k, rs, rfl, hk, rfl, hown, hput, hb⟩ := hrel
    by_cases hlt : k < l.length
    · obtain ⟨b, off, up, uc, hkr, rfl, -, hrk, c0, c1, c2, -, -⟩ := H.out.2.2 k hlt
      replace c0 := below_cells hb c0
      replace c1 := below_cells hb c1
      replace c2 := below_cells hb c2
      have K := Lib.hid (And.intro hown (And.intro hput (And.intro hb hrk)))
      have hsz := hb.size
      clear hown hput hb hrk
      obtain ⟨wo, rfl⟩ : ∃ wo : World, wo = wr := ⟨_, rfl⟩
      go_wp2_with fail
      have BO := Lib.hid ((Below.refl wo.heap.size wo).alloc (Nat.le_refl _) (Obj.cells #[Value.int IntKind.u64 l[k].id, Value.int IntKind.u64 l[k].dist, Value.slice up l[k].vec.length uc] 38))
      go_loopg [6, 21] l.length (fun q' cnt i wr => ∃ j : Nat, q' = l.length - j ∧ j ≤ l.length ∧ i = .int .i64 j ∧ cnt = .int .i64 ((l.take j).countP fun x => near x l[k]) ∧ Below (wo.alloc (Obj.cells #[Value.int IntKind.u64 l[k].id, Value.int IntKind.u64 l[k].dist, Value.slice up l[k].vec.length uc] 38)).heap.size (wo.alloc (Obj.cells #[Value.int IntKind.u64 l[k].id, Value.int IntKind.u64 l[k].dist, Value.slice up l[k].vec.length uc] 38)) wr)
      case atStart => exact ⟨0, rfl, by omega, rfl, rfl, Below.refl _ _⟩
      case round =>
        obtain ⟨j, rfl, hj, rfl, rfl, hbi⟩ := hrel
        have y0 := below_cells hbi (a := ⟨wo.heap.size, 0, none⟩) (v := .int .u64 l[k].id) (by go_simp)
        have y1 := below_cells hbi (a := ⟨wo.heap.size, 1, none⟩) (v := .int .u64 l[k].dist) (by go_simp)
        have y2 := below_cells hbi (a := ⟨wo.heap.size, 2, none⟩) (v := .slice up l[k].vec.length uc) (by go_simp)
        have yb : wo.heap.size < wr.heap.size := lt_of_cell y0
        by_cases hlj : j < l.length
        · obtain ⟨b', off', up', uc', -, hp', -, -, d0, d1, d2, -, -⟩ := H.out.2.2 j hlj
          obtain ⟨rfl, rfl⟩ : b = b' ∧ off = off' := by simpa using hp'
          have hbw := K.out.2.2.1.trans ((BO.out.trans (hbi.mono BO.out.size)).mono hsz)
          replace d0 := below_cells hbw d0
          replace d1 := below_cells hbw d1
          replace d2 := below_cells hbw d2
          have BI := Lib.hid hbi
          have hst := ahead_step O.out.2.2 hlt hlj
          have hc1 : ((l.take j).countP fun x => near x l[k]) ≤ j := Nat.le_trans List.countP_le_length (by rw [List.length_take]; omega)
          have z0 : (wr.alloc (Obj.cells #[Value.int IntKind.u64 l[j].id, Value.int IntKind.u64 l[j].dist, Value.slice up' l[j].vec.length uc'] 38)).cell? ⟨wr.heap.size, 0, none⟩ = some (.int .u64 l[j].id) := by go_simp
          have z1 : (wr.alloc (Obj.cells #[Value.int IntKind.u64 l[j].id, Value.int IntKind.u64 l[j].dist, Value.slice up' l[j].vec.length uc'] 38)).cell? ⟨wr.heap.size, 1, none⟩ = some (.int .u64 l[j].dist) := by go_simp
          have z2 : (wr.alloc (Obj.cells #[Value.int IntKind.u64 l[j].id, Value.int IntKind.u64 l[j].dist, Value.slice up' l[j].vec.length uc'] 38)).cell? ⟨wr.heap.size, 2, none⟩ = some (.slice up' l[j].vec.length uc') := by go_simp
          have BJ := Lib.hid ((Below.refl wr.heap.size wr).alloc (Nat.le_refl _) (Obj.cells #[Value.int IntKind.u64 l[j].id, Value.int IntKind.u64 l[j].dist, Value.slice up' l[j].vec.length uc'] 38))
          have t0 := below_cells BJ.out y0
          have t1 := below_cells BJ.out y1
          have t2 := below_cells BJ.out y2
          have k0 : (0 : Int) ≤ (j : Int) := by omega
          have k1 : (j : Int) < (l.length : Int) := by omega
          clear hbi hp' hbw
          cases hq : near l[j] l[k]
          · have NB := Lib.hid (show nearB l[j].id l[j].dist l[k].id l[k].dist = false from hq)
            rw [hq, if_neg (by simp)] at hst
            have ST := Lib.hid hst
            by_cases hjk : j = k
            · have NB2 := Lib.hid (show nearB l[k].id l[k].dist l[j].id l[j].dist = false from by subst hjk; exact near_irrefl l[j])
              have hlk : decide (j < k) = false := decide_eq_false (by omega)
              clear hq hst hjk
              go_wp2_with fail
              refine (refNearer l[j].id l[j].dist l[k].id l[k].dist _ _ _).mono ?_
              rintro e w4 ⟨rfl, hb4⟩
              replace y0 := below_cells hb4 t0
              replace y1 := below_cells hb4 t1
              replace y2 := below_cells hb4 t2
              replace z0 := below_cells hb4 z0
              replace z1 := below_cells hb4 z1
              replace z2 := below_cells hb4 z2
              have B4 := Lib.hid (BJ.out.trans (hb4.mono BJ.out.size))
              clear t0 t1 t2 hb4 d0 d1 d2
              rw [NB.out]
              go_wp2_with fail
              refine (refNearer l[k].id l[k].dist l[j].id l[j].dist _ _ _).mono ?_
              rintro e w5 ⟨rfl, hb5⟩
              have B5 := Lib.hid (B4.out.trans (hb5.mono B4.out.size))
              clear hb5
              rw [NB2.out]
              go_wp2_with fail
              go_roundg (l.length - (j + 1))
              case measure => omega
              case rel => exact ⟨j + 1, rfl, by omega, by go_num, by rw [ST.out]; rfl, BI.out.trans (B5.out.mono BI.out.size)⟩
            · have NB2 := Lib.hid (show nearB l[k].id l[k].dist l[j].id l[j].dist = true from by
                rcases near_total (a := l[j]) (b := l[k]) (fun e => by
                  rcases Nat.lt_or_ge j k with h | h
                  · exact List.pairwise_iff_getElem.1 O.out.2.2 j k hlj hlt h e
                  · exact List.pairwise_iff_getElem.1 O.out.2.2 k j hlt hlj (by omega) e.symm) with h | h
                · rw [hq] at h; cases h
                · exact h)
              clear hq hst hjk
              go_wp2_with fail
              refine (refNearer l[j].id l[j].dist l[k].id l[k].dist _ _ _).mono ?_
              rintro e w4 ⟨rfl, hb4⟩
              replace y0 := below_cells hb4 t0
              replace y1 := below_cells hb4 t1
              replace y2 := below_cells hb4 t2
              replace z0 := below_cells hb4 z0
              replace z1 := below_cells hb4 z1
              replace z2 := below_cells hb4 z2
              have B4 := Lib.hid (BJ.out.trans (hb4.mono BJ.out.size))
              clear t0 t1 t2 hb4 d0 d1 d2
              rw [NB.out]
              go_wp2_with fail
              refine (refNearer l[k].id l[k].dist l[j].id l[j].dist _ _ _).mono ?_
              rintro e w5 ⟨rfl, hb5⟩
              have B5 := Lib.hid (B4.out.trans (hb5.mono B4.out.size))
              clear hb5
              rw [NB2.out]
              go_wp2_with fail
              go_roundg (l.length - (j + 1))
              case measure => omega
              case rel => exact ⟨j + 1, rfl, by omega, by go_num, by rw [ST.out]; rfl, BI.out.trans (B5.out.mono BI.out.size)⟩
          · have NB := Lib.hid (show nearB l[j].id l[j].dist l[k].id l[k].dist = true from hq)
            rw [hq, if_pos rfl] at hst
            have ST := Lib.hid hst
            clear hq hst
            go_wp2_with fail
            refine (refNearer l[j].id l[j].dist l[k].id l[k].dist _ _ _).mono ?_
            rintro e w4 ⟨rfl, hb4⟩
            replace y0 := below_cells hb4 t0
            replace y1 := below_cells hb4 t1
            replace y2 := below_cells hb4 t2
            replace z0 := below_cells hb4 z0
            replace z1 := below_cells hb4 z1
            replace z2 := below_cells hb4 z2
            have B4 := Lib.hid (BJ.out.trans (hb4.mono BJ.out.size))
            clear t0 t1 t2 hb4 d0 d1 d2
            rw [NB.out]
            go_wp2_with fail
            go_wp2_with fail
            go_roundg (l.length - (j + 1))
            case measure => omega
            case rel => exact ⟨j + 1, rfl, by omega, by go_num, by rw [ST.out]; rfl, BI.out.trans (B4.out.mono BI.out.size)⟩
        · obtain rfl : j = l.length := by omega
          rw [List.take_length]
          obtain ⟨r1, -⟩ := ahead_of O.out.1 O.out.2.1 hlt
          rw [O.out.2.1.length_eq] at r1
          rw [show (l.countP fun x => near x l[k]) = aheadZ l l[k] from rfl]
          have PN := Lib.hid (K.out.2.1.next O.out.1 O.out.2.1 O.out.2.2 hlt hkr)
          rw [K.out.2.2.2] at PN
          have BF := Lib.hid ((BO.out.trans (hbi.mono BO.out.size)))
          have hrs := K.out.2.1.1
          generalize aheadZ l l[k] = r at *
          have hth := own_there (own_below K.out.1 BF.out) rfl (r * 3) 3 (by omega)
          have hone : (#[.int .u64 l[k].id, .int .u64 l[k].dist, .slice up l[k].vec.length uc] : Array Value).all (·.oneCell') = true := by simp [Value.oneCell']
          have r0 : (0 : Int) ≤ (r : Int) := by omega
          have r2 : (r : Int) < (l.length : Int) := by omega
          clear hbi r1
          go_wp2_with (refine wpList_store_mid rfl 38 _ _ rfl w.heap.size (r * 3) #[.int .u64 l[k].id, .int .u64 l[k].dist, .slice up l[k].vec.length uc] (by rfl) (by rfl) (by exact hth) (by kernel_rfl) (by exact hone) ?_)
          go_roundg (l.length - (k + 1))
          case measure => omega
          case rel =>
            have hsc := own_setCells (g := w.heap.size) rfl [.int .u64 l[k].id, .int .u64 l[k].dist, .slice up l[k].vec.length uc] (r * 3) _ _ (own_below K.out.1 BF.out) (by simp; omega)
            have e := setAt_flat3 rs r (by omega) ⟨l[k].id, l[k].dist, .slice up l[k].vec.length uc⟩
            simp only at e
            rw [e] at hsc
            refine ⟨k + 1, _, rfl, by omega, by go_num, hsc, PN.out, ?_⟩
            exact (K.out.2.2.1.trans (BF.out.mono hsz)).grown (grownBy_setCells _ _ _ _) (by have := BF.out.size; omega) (fun b hb => by cases hb; exact Nat.le_refl _)
    · obtain rfl : k = l.length := by omega
      have hr := (H.out.2.1.below hb).mono (fun k hk => show Plus F w wr k from .inl hk)
      have hml := O.out.2.1.length_eq
      have FI := Lib.hid (show wr.ownsRow w.heap.size 38 3 (.slice (some ⟨w.heap.size, 0, none⟩) l.length l.length) m.length (flat3 rs) ∧ Rows3 wr (Plus F w wr) rs m ∧ Below w.heap.size w wr from ⟨by rw [hml]; exact hown, hput.rows O.out.1 O.out.2.1 hr, hb⟩)
      clear hown hput hb hr hml
      go_wp2_with fail
      go_ret
      exact ⟨_, rs, rfl, FI.out.1, FI.out.2.1, FI.out.2.2⟩

theorem refAllT (F : Nat → Prop) (c : Nat) (most : Int) (n : Nat) (L : List Hz) (w : World) (hL : RefL w F c most L) (gL : GoodL n L) (hn : L.length ≤ 1000000) :
    Calls Tryz.prog 79 #[.pointer (some ⟨c, 0, none⟩)] w (SortToT w F L) := by
  obtain ⟨v, G, r, ho, hp, -, hG⟩ := hL
  obtain ⟨c0, c1, -⟩ := ho.cells
  have hlen := hp.length_eq
  have S := Lib.hid (sortT r L gL.sorted (gL.ids.perm hp) hp (by omega) v G w ho.hits)
  have GF := Lib.hid hG
  clear ho hp gL hG hlen
  go_enter Tryz.func79, Tryz.ntmps79
  go_wp2_with fail
  refine S.out.mono ?_
  rintro e w' ⟨v', rs, rfl, ho, hh, hb⟩
  have R := Lib.hid (And.intro ho (And.intro (hh.mono (G' := Plus F w w') fun k hk => by
    rcases hk with hk | hk
    · exact .inl (GF.out k hk)
    · exact .inr hk) hb))
  obtain ⟨p9, m9, c9, rfl⟩ := own_form ho
  clear ho hh hb
  go_wp2_with fail
  go_ret
  exact ⟨_, rs, rfl, R.out.1, R.out.2.1, R.out.2.2⟩



set_option maxRecDepth 100000 in
set_option maxHeartbeats 16000000 in
theorem wRefT (w0 : World) (x : Nat) (gv : Value) (hx : w0.cell? ⟨x, 0, none⟩ = some gv) (far : Int → Option Int) (nr : Int → List Int) (cF : ∀ W, Below w0.heap.size w0 W → ∀ k, Calls Tryz.prog 103 #[.pointer (some ⟨x, 0, none⟩), .int .u64 k] W fun e w' => ∃ v, e = .returned v ∧ v = .tuple #[.int .u64 ((far k).getD 0), .bool (far k).isSome] ∧ Below W.heap.size W w')
    (cN : ∀ W, Below w0.heap.size w0 W → ∀ k, Calls Tryz.prog 49 #[gv, .int .u64 k, .bool false] W (NewL W (nr k))) (K : List Int) (hKf : ∀ k d, far k = some d → k ∈ K) (hK1 : K.length ≤ 1000)
    (most : Nat) (hm : 1 ≤ most ∧ most ≤ 256) (fv : Value) (ks : List Int) (hk : Nums w0 .u64 fv ks) :
    Calls Tryz.prog 47 #[.pointer (some ⟨x, 0, none⟩), .int .i64 most, fv] w0 (RefTellsT w0 (goW far nr most (2 * K.length) (lookW far most true ⟨[], [], []⟩ ks)).1 (goW far nr most (2 * K.length) (lookW far most true ⟨[], [], []⟩ ks)).2) := by
  obtain ⟨kp, kc, rfl, hkc1, hkc2, -, -⟩ := hk.slice
  have HK := Lib.hid hk
  have CFF := Lib.hid cF
  have CNN := Lib.hid cN
  have HX := Lib.hid hx
  have hkl : ks.length ≤ 9223372036854775807 := by omega
  clear hk cF cN hx hkc1 hkc2
  obtain ⟨R1, hR1⟩ : ∃ R, R = (goW far nr most (2 * K.length) (lookW far most true ⟨[], [], []⟩ ks)).1 := ⟨_, rfl⟩
  obtain ⟨R2, hR2⟩ : ∃ R, R = (goW far nr most (2 * K.length) (lookW far most true ⟨[], [], []⟩ ks)).2 := ⟨_, rfl⟩
  rw [← hR1, ← hR2]
  have HR := Lib.hid (And.intro hR1 hR2)
  clear hR1 hR2
  have HM := Lib.hid (fun (s : Ws) (g : GoodW K far most s) => (show lessW K s ≤ 2 * K.length from by
    have h1 := g.small
    have h2 := List.length_filter_le (fun k => decide (k ∉ s.S)) K
    unfold lessW
    omega))
  obtain ⟨M, hM⟩ : ∃ M, M = 2 * K.length := ⟨_, rfl⟩
  rw [← hM] at HR HM
  have hM2 : M ≤ 2000 := by omega
  have hR2 : R2 ≤ 2000 := by have := goW_count far nr most M (lookW far most true ⟨[], [], []⟩ ks); rw [HR.out.2]; omega
  have CN := Lib.hid (goW_count far nr most M)
  clear hM
  go_enter Tryz.func47, Tryz.ntmps47
  go_upto_region 4 with fail
  obtain ⟨W1, hW1⟩ : ∃ W1, W1 = (w0.alloc (.cells #[.int .i64 most, .slice none 0 0] 136)).alloc (.cells #[.pointer (some ⟨w0.heap.size, 0, none⟩), .slice none 0 0, .slice none 0 0] 138) := ⟨_, rfl⟩
  have hh := heapTwo w0 (.cells #[.int .i64 most, .slice none 0 0] 136) (.cells #[.pointer (some ⟨w0.heap.size, 0, none⟩), .slice none 0 0, .slice none 0 0] 138)
  rw [← hW1] at hh
  have hb1 : Below w0.heap.size w0 W1 := by rw [hW1]; exact ((Below.refl _ w0).alloc (Nat.le_refl _) _).alloc (by simp) _
  have hs1 : W1.heap.size = w0.heap.size + 2 := by rw [hW1]; simp
  have hAt : RsAt (.slice none 0 0) [] w0 W1 (w0.heap.size + 1) w0.heap.size (fun k => k = w0.heap.size) most (.slice none 0 0) (.slice none 0 0) [] [] [] := by
    refine ⟨hh.2, ⟨.slice none 0 0, fun _ => False, [], ⟨hh.1, HitsF.nil _ _, by simp, by simp⟩, List.Perm.refl _, rfl, by simp⟩, World.ownsRow_nil _ _ _ _, World.ownsRow_nil _ _ _ _, fun k hk => by omega, by omega, fun k hk => (by cases hk), fun k hk => (by cases hk), ⟨by omega, by omega⟩, hb1, nums_none _, fun k _ h0 => absurd h0 (by simp)⟩
  rw [← hW1]
  obtain ⟨b, hb⟩ : ∃ b, b = w0.heap.size + 1 := ⟨_, rfl⟩
  obtain ⟨c, hc⟩ : ∃ c, c = w0.heap.size := ⟨_, rfl⟩
  obtain ⟨F1, hF1⟩ : ∃ F : Nat → Prop, F = fun k => k = w0.heap.size := ⟨_, rfl⟩
  rw [← hb, ← hF1, ← hc] at hAt
  rw [← hb]
  have A1 := Lib.hid hAt
  clear hW1 hh hb1 hs1 hAt hb hc hF1
  have g0 := Lib.hid (GoodW.start (K := K) (far := far) (most := most) hm.1)
  go_upto_region 5 with fail
  go_loopg [32] ks.length (fun q i wr => ∃ (j : Nat) (F : Nat → Prop) (sv tv : Value), q = ks.length - j ∧ j ≤ ks.length ∧ i = .int .i64 j ∧ RsAt (.slice none 0 0) [] w0 wr b c F most sv tv (lookR far most true ⟨[], [], []⟩ (ks.take j)).L (lookR far most true ⟨[], [], []⟩ (ks.take j)).S (lookR far most true ⟨[], [], []⟩ (ks.take j)).T)
  case atStart => exact ⟨0, F1, _, _, rfl, by omega, rfl, A1.out⟩
  case round =>
    obtain ⟨j, F, sv, tv, rfl, hj, rfl, hRs⟩ := hrel
    by_cases hlt : j < ks.length
    · have LK := Lib.hid (Like.start.look far most true (ks.take j))
      have GT := Lib.hid (g0.out.look hKf hm.1 true (ks.take j))
      have RS := Lib.hid hRs
      obtain ⟨bb, ob, rfl, hcell⟩ := HK.out.elem hlt
      replace hcell := below_cells hRs.old hcell
      have SN := Lib.hid (lookR_snoc far most true ⟨[], [], []⟩ ks j hlt)
      obtain ⟨st, hst⟩ : ∃ st, st = lookR far most true ⟨[], [], []⟩ (ks.take j) := ⟨_, rfl⟩
      obtain ⟨y, hy⟩ : ∃ y, y = ks[j] := ⟨_, rfl⟩
      rw [← hst] at LK RS SN
      rw [← hy] at hcell SN
      clear hRs hst hy
      have gS := GT.out.best
      have gsm := GT.out.small
      have gTl := LK.out.todo.length_eq
      have cS := Lib.hid (wSee _ _ w0 wr x far (fun W hb k => CFF.out W hb k) b c F most (by omega) sv tv st RS.out (by rw [LK.out.best]; exact gS) (by rw [LK.out.seen]; omega) (by omega) y true)
      clear gS gsm gTl
      go_wp2_with (go_at_call 78; (with_reducible refine cS.out.mono ?_); rintro e w2 ⟨rfl, F2, sv2, tv2, hA2⟩; have A2 := Lib.hid hA2; clear hA2)
      go_roundg (ks.length - (j + 1))
      case measure => omega
      case rel => exact ⟨j + 1, F2, sv2, tv2, rfl, by omega, by go_num, by rw [SN.out]; exact A2.out⟩
    · obtain rfl : j = ks.length := by omega
      rw [List.take_length] at hRs
      have LK := Lib.hid (Like.start.look far most true ks)
      have GT := Lib.hid (g0.out.look hKf hm.1 true ks)
      have RS := Lib.hid hRs
      clear hRs
      go_wp2_with fail
      go_loopg [11] M (fun q nv wr => ∃ (n : Nat) (F : Nat → Prop) (sv tv : Value) (s t : Ws), nv = .int .i64 n ∧ lessW K t ≤ q ∧ RsAt (.slice none 0 0) [] w0 wr b c F most sv tv s.L s.S s.T ∧ Like s t ∧ GoodW K far most t ∧ (goW far nr most M t).1 = R1 ∧ n + (goW far nr most M t).2 = R2)
      case atStart => exact ⟨0, F, sv, tv, _, _, rfl, HM.out _ GT.out, RS.out, LK.out, GT.out, by rw [HR.out.1], by rw [HR.out.2]; simp⟩
      case round =>
        obtain ⟨n, F, sv, tv, s, t, rfl, hq, hA, hlk, hg, hr1, hr2⟩ := hrel
        obtain ⟨L, S, T⟩ := s
        simp only at hA
        have WA := Lib.hid hA
        have LK := Lib.hid hlk
        have GS := Lib.hid hg
        have hsm := hg.small
        have hTt : T.length = t.T.length := hlk.todo.length_eq
        obtain ⟨tp, tn, tc, rfl⟩ := own_form hA.todo
        obtain rfl : tn = T.length := own_len hA.todo
        have hcount := CN.out t
        have hle := HM.out t hg
        have hunf := goW_more (most := most) hKf nr M t hle
        have c3 : wr.cell? ⟨b, 2, none⟩ = some (.slice tp T.length tc) := cellsB hA.cell 2
        have Q1 := Lib.hid hq
        have hn2 : n ≤ 2000 := by omega
        have hT1 : T.length ≤ 1000 := by omega
        cases hl : t.T.getLast? with
        | none =>
          have hT : t.T = [] := by simpa using hl
          have hgo : goW far nr most M t = (t.L, 0) := by
            rw [← hunf]
            simp [goW, hT]
          have FIN := Lib.hid (show n = R2 from by rw [← hr2, hgo]; rfl)
          have HRL := Lib.hid (show L = R1 from by rw [← hr1, hgo]; exact hlk.best)
          have hT0 : T.length = 0 := by rw [hTt, hT]; rfl
          clear hA hlk hg hsm hcount hle hunf hq hl hgo hr1 hr2 hTt hT
          rw [hT0] at c3
          have cA := Lib.hid (refAllT F c most most L wr WA.out.best (show GoodL most L from (show L = t.L from LK.out.best) ▸ GS.out.best) (by have := GS.out.best.len; have := (show L = t.L from LK.out.best); subst this; omega))
          have b0 : wr.cell? ⟨b, 0, none⟩ = some (.pointer (some ⟨c, 0, none⟩)) := cellsB WA.out.cell 0
          have OLD := Lib.hid WA.out.old
          go_wp2_with (go_at_call 79; (with_reducible refine cA.out.mono ?_); rintro e w9 ⟨v9, rs9, rfl, ho9, hr9, hb9⟩; obtain ⟨p9, m9, c9, rfl⟩ := own_form ho9; have RH := Lib.hid (And.intro ho9 (And.intro hr9 hb9)); clear ho9 hr9 hb9)
          go_ret2
          have fin := FIN.out
          subst fin
          exact ⟨_, rs9, rfl, by rw [← HRL.out]; exact own_mono RH.out.1 OLD.out.size, by rw [← HRL.out]; exact rows_bare RH.out.2.1 (fun y hy => GS.out.plain y (by rw [← LK.out.best]; exact hy)), OLD.out.trans (RH.out.2.2.mono OLD.out.size)⟩
        | some xh =>
          obtain ⟨wo, rfl⟩ : ∃ W : World, W = wr := ⟨_, rfl⟩
          have hpos : 0 < T.length := by
            rw [hTt]
            cases ht0 : t.T with
            | nil => rw [ht0] at hl; cases hl
            | cons a l => simp
          obtain ⟨gb, cap', hve, -, -⟩ := hA.todo.form hpos
          obtain ⟨rfl, -, rfl⟩ := Value.slice.inj hve
          have hbare : ∀ y ∈ T, y.vec = [] := fun y hy => hg.bare y (hlk.todo.mem_iff.1 hy)
          have FE := Lib.hid (show ∀ W, Below wo.heap.size wo W → W.cell? ⟨b, 2, none⟩ = some (.slice (some ⟨gb, 0, none⟩) T.length tc) ∧ ∀ i (hi : i < T.length), W.cell? ⟨gb, i * 3, none⟩ = some (.int .u64 T[i].id) ∧ W.cell? ⟨gb, i * 3 + 1, none⟩ = some (.int .u64 T[i].dist) ∧ W.cell? ⟨gb, i * 3 + 1 + 1, none⟩ = some (.slice none 0 0) from fun W hb => by
            have h := WA.out.below hb
            refine ⟨cellsB h.cell 2, fun i hi => ?_⟩
            have hft := flat3_get (T.map bareV) i (by simpa using hi)
            simp only [List.getElem_map, bareV] at hft
            exact ⟨by rw [World.ownsRow.cellAt h.todo _ (by omega)]; exact hft.1, by rw [World.ownsRow.cellAt h.todo _ (by omega)]; exact hft.2.1, by rw [World.ownsRow.cellAt h.todo _ (by omega)]; exact hft.2.2⟩)
          have BR := Lib.hid hbare
          have HL := Lib.hid hl
          have HUN := Lib.hid (And.intro hunf (And.intro hr1 hr2))
          have hct := (own_cap hA.todo).1
          have hpos2 : (0 : Int) < (T.length : Int) := by omega
          clear hA hlk hg hsm hcount hle hunf hq hl hr1 hr2 hve hbare hTt
          go_wp2_with fail
          go_loopg [12, 52] T.length (fun q a i wr => ∃ j m : Nat, q = T.length - j ∧ j ≤ T.length ∧ m < T.length ∧ a = .int .i64 m ∧ i = .int .i64 j ∧ (∀ hmT : m < T.length, ∀ i (hi : i < T.length), i < j → near T[i] T[m] = false) ∧ Below wo.heap.size wo wr)
          case atStart => exact ⟨0, 0, rfl, by omega, hpos, rfl, rfl, fun _ i hi h => by omega, Below.refl _ _⟩
          case round =>
            obtain ⟨j, m, rfl, hj, hmT, rfl, rfl, hmin, hbq⟩ := hrel
            by_cases hlt : j < T.length
            · obtain ⟨x0, x1, x2⟩ := (FE.out wr hbq).2 j hlt
              have MIN := Lib.hid hmin
              have BQ := Lib.hid hbq
              obtain ⟨xj, hxj⟩ : ∃ y, y = T[j] := ⟨_, rfl⟩
              obtain ⟨xm, hxm⟩ : ∃ y, y = T[m] := ⟨_, rfl⟩
              rw [← hxj] at x0 x1
              obtain ⟨W2, hW2⟩ : ∃ W2, W2 = (wr.alloc (.cells #[.int .u64 xj.id, .int .u64 xj.dist, .slice none 0 0] 38)).drew := ⟨_, rfl⟩
              have hb2 : Below wr.heap.size wr W2 := by rw [hW2]; exact ((Below.refl _ _).alloc (Nat.le_refl _) _).drew
              have y2 : W2.heap[wr.heap.size]? = some (.cells #[.int .u64 xj.id, .int .u64 xj.dist, .slice none 0 0] 38 (0, 0)) := by rw [hW2]; exact heap_alloc_new _ _
              have B2 := Lib.hid (hbq.trans (hb2.mono hbq.size))
              obtain ⟨g, hgq⟩ : ∃ g, g = wr.heap.size := ⟨_, rfl⟩
              obtain ⟨f0, f1⟩ := FE.out W2 B2.out
              obtain ⟨m0, m1, m2⟩ := f1 m hmT
              rw [← hxm] at m0 m1
              rw [← hgq] at y2
              have I2 := Lib.hid (And.intro f0 (And.intro (And.intro (cellsB y2 0) (And.intro (cellsB y2 1) (cellsB y2 2))) (And.intro m0 (And.intro m1 m2))))
              have XX := Lib.hid (And.intro hxj hxm)
              have cN := Lib.hid (refNearer xj.id xj.dist xm.id xm.dist (.slice none 0 0) (.slice none 0 0) W2)
              obtain ⟨nb, hnb⟩ : ∃ b, b = nearB xj.id xj.dist xm.id xm.dist := ⟨_, rfl⟩
              rw [← hnb] at cN
              have NB := Lib.hid (show nb = near xj xm from hnb)
              have HW2 := Lib.hid hW2
              have hmi : (0 : Int) ≤ m ∧ (m : Int) < T.length := by omega
              have hmi2 : ((m : Nat) : Int).toNat = m := Int.toNat_natCast _
              clear hmin hbq hxj hxm hW2 hb2 y2 f0 f1 m0 m1 m2 hnb
              go_upto_region 15 with fail
              rw [← hgq]
              clear hgq
              refine region_go (fun w' => w'.cell? ⟨b, 2, none⟩ = some (.slice (some ⟨gb, 0, none⟩) T.length tc) ∧ (w'.cell? ⟨g, 0, none⟩ = some (.int .u64 xj.id) ∧ w'.cell? ⟨g, 1, none⟩ = some (.int .u64 xj.dist) ∧ w'.cell? ⟨g, 2, none⟩ = some (.slice none 0 0)) ∧ w'.cell? ⟨gb, m * 3, none⟩ = some (.int .u64 xm.id) ∧ w'.cell? ⟨gb, m * 3 + 1, none⟩ = some (.int .u64 xm.dist) ∧ w'.cell? ⟨gb, m * 3 + 1 + 1, none⟩ = some (.slice none 0 0)) (by kernel_rfl) ?hS0 (fun hH => ?_)
              case hS0 =>
                rw [← HW2.out]; exact I2.out
              rw [← HW2.out] at hH ⊢
              refine kY 0 hH ?_
              repeat simp only [Act.put, uA1, uB1, uC1]
              refine kY 1 hH ?_
              repeat simp only [Act.put, uA1, uB1, uC1]
              refine kY 2 hH ?_
              repeat simp only [Act.put, uA1, uB1, uC1]
              refine kY 3 hH ?_
              repeat simp only [Act.put, uA1, uB1, uC1]
              refine kY 4 hH ?_
              repeat simp only [Act.put, uA1, uB1, uC1]
              refine kY 5 hH ?_
              repeat simp only [Act.put, uA1, uB1, uC1]
              refine kY 6 hH ?_
              repeat simp only [Act.put, uA1, uB1, uC1]
              refine kY 7 hH ?_
              repeat simp only [Act.put, uA1, uB1, uC1]
              refine spk 8 rfl (by decide +kernel) (by rfl) (fun K' hK => ?_)
              go_simp
              with_reducible refine cN.out.mono ?_
              rintro e w3 ⟨rfl, hb3⟩
              try dsimp only
              refine hK.out _ _ ?hS (fun hH' => ?_)
              case hS =>
                exact ⟨below_cells hb3 hH.1, ⟨below_cells hb3 hH.2.1.1, below_cells hb3 hH.2.1.2.1, below_cells hb3 hH.2.1.2.2⟩, below_cells hb3 hH.2.2.1, below_cells hb3 hH.2.2.2.1, below_cells hb3 hH.2.2.2.2⟩
              clear hK K' hH; have hH := hH'; clear hH'; repeat simp only [Act.put, uA1, uB1, uC1]
              refine wpAnyH_done (by decide +kernel) ?_ _
              have B3 := Lib.hid (B2.out.trans (hb3.mono B2.out.size))
              clear hH hb3
              cases nb with
              | false =>
                go_wp2_with fail
                go_roundg (T.length - (j + 1))
                case measure => omega
                case rel =>
                  refine ⟨j + 1, m, rfl, by omega, hmT, rfl, by go_num, fun hm' i hi hij => ?_, B3.out⟩
                  by_cases e : i < j
                  · exact MIN.out hm' i hi e
                  · obtain rfl : i = j := by omega
                    rw [← XX.out.1, ← XX.out.2]
                    exact NB.out.symm
              | true =>
                go_wp2_with fail
                go_roundg (T.length - (j + 1))
                case measure => omega
                case rel =>
                  refine ⟨j + 1, j, rfl, by omega, hlt, rfl, by go_num, fun hm' i hi hij => ?_, B3.out⟩
                  have hjm : near T[j] T[m] = true := by rw [← XX.out.1, ← XX.out.2]; exact NB.out.symm
                  by_cases e : i < j
                  · have h1 := MIN.out hmT i hi e
                    cases h2 : near T[i] T[j]
                    · rfl
                    · rw [near_trans h2 hjm] at h1
                      cases h1
                  · obtain rfl : i = j := by omega
                    exact near_irrefl _
            · obtain rfl : j = T.length := by omega
              obtain ⟨hlast, hperm⟩ := LK.out.least GS.out hmT (fun i hi => hmin hmT i hi hi)
              have hxm : xh = T[m] := by
                have h := HL.out
                rw [hlast] at h
                exact (Option.some.inj h).symm
              have f2 := (FE.out wr hbq).1
              obtain ⟨x0, x1, x2⟩ := (FE.out wr hbq).2 m hmT
              rw [← hxm] at x0 x1
              have hmi : (0 : Int) ≤ m ∧ (m : Int) < T.length := by omega
              have hmi2 : ((m : Nat) : Int).toNat = m := Int.toNat_natCast _
              have A0 := Lib.hid (WA.out.below hbq)
              obtain ⟨W2, hW2⟩ : ∃ W2, W2 = (wr.alloc (.cells #[.int .u64 xh.id, .int .u64 xh.dist, .slice none 0 0] 38)).drew := ⟨_, rfl⟩
              have hb2 : Below wr.heap.size wr W2 := by rw [hW2]; exact ((Below.refl _ _).alloc (Nat.le_refl _) _).drew
              have y2 : W2.heap[wr.heap.size]? = some (.cells #[.int .u64 xh.id, .int .u64 xh.dist, .slice none 0 0] 38 (0, 0)) := by rw [hW2]; exact heap_alloc_new _ _
              have A2 := Lib.hid (A0.out.below hb2)
              obtain ⟨g, hgq⟩ : ∃ g, g = wr.heap.size := ⟨_, rfl⟩
              rw [← hgq] at y2
              have hgb : g ≠ b := by have := A0.out.blt; omega
              have G2 := Lib.hid (And.intro y2 hgb)
              have PM := Lib.hid hperm
              have HW2 := Lib.hid hW2
              have S1 := Lib.hid (show SrcAt W2 (some ⟨gb, 0, none⟩) m tc 3 (flat3 ((T.take m).map bareV)) from by
                have := (SrcAt.of_own A2.out.todo).sub 0 m tc (by simp; omega)
                simpa using this)
              have S2' := Lib.hid (show SrcAt W2 (some ⟨gb, (m + 1) * 3, none⟩) (T.length - (m + 1)) (tc - (m + 1)) 3 (flat3 ((T.drop (m + 1)).map bareV)) from by
                have := (SrcAt.of_own A2.out.todo).sub (m + 1) (T.length - (m + 1)) (tc - (m + 1)) (by simp; omega)
                rw [List.take_of_length_le (by simp), ← List.map_drop] at this
                simpa using this)
              have ER := Lib.hid (show flat3 ((T.take m).map bareV) ++ flat3 ((T.drop (m + 1)).map bareV) = flat3 ((T.eraseIdx m).map bareV) ∧ (T.eraseIdx m).length = m + (T.length - (m + 1)) from by
                rw [← flat3_append, ← List.map_append, ← List.eraseIdx_eq_take_drop_succ]
                exact ⟨rfl, by rw [List.length_eraseIdx, if_pos hmT]; omega⟩)
              have FO := Lib.hid (show ∀ T : List Hz, ∀ u ∈ flat3 (T.map bareV), u.oneCell' = true from fun T => flat3_one fun r hr => by obtain ⟨y, -, rfl⟩ := List.mem_map.1 hr; rfl)
              have CF := Lib.hid (show ∀ W, Below W2.heap.size W2 W → W.cell? ⟨b, 2, none⟩ = some (.slice (some ⟨gb, 0, none⟩) T.length tc) ∧ W.frozen? ⟨b, 2, none⟩ = false from fun W hb => by
                have h := (A2.out.below hb).cell
                exact ⟨cellsB h 2, by simp [World.frozen?, h]⟩)
              have k1 : (m : Int) ≤ (tc : Int) := by omega
              have k3 : ((m : Int) + 1) ≤ (T.length : Int) := by omega
              have k4 : IntKind.i64.wrap ((m : Int) + 1) = (m : Int) + 1 := by simp [IntKind.wrap, IntKind.signed, IntKind.bits] <;> omega
              have k5 : (0 : Int) ≤ (m : Int) + 1 := by omega
              have k6 : ((m : Int) + 1).toNat = m + 1 := by omega
              have HMT := Lib.hid (And.intro hmT hct)
              have hb0 : Below W2.heap.size W2 W2 := Below.refl _ _
              clear hmin hbq hlast hperm hxm hW2 hb2 y2 A0 hmT
              go_upto_region 19 with fail
              rw [← hgq]
              clear hgq
              go_cut [92] (fun s wc => ∃ v, RsAt (.slice none 0 0) [] w0 wc b c F most sv v L S (T.eraseIdx m) ∧ wc.heap[g]? = some (.cells #[.int .u64 xh.id, .int .u64 xh.dist, .slice none 0 0] 38 (0, 0)))
              case first =>
                by_cases hcap2 : tc = m + 1
                · subst hcap2
                  have hEl : T.length = m + 1 := by have := HMT.out; omega
                  have k7 : (m : Int) ≤ (m : Int) + 1 := by omega
                  have S2 : Hid (SrcAt W2 (some ⟨gb, 0, none⟩) (T.length - (m + 1)) 0 3 (flat3 ((T.drop (m + 1)).map bareV))) := Lib.hid (by
                    rw [List.drop_eq_nil_of_le (by omega), show T.length - (m + 1) = 0 by omega]
                    exact SrcAt.none W2 _ 3 (.inr ⟨_, rfl⟩))
                  clear hEl
                  refine region_goN 19 (fun w' => w'.cell? ⟨b, 2, none⟩ = some (.slice (some ⟨gb, 0, none⟩) T.length (m + 1))) (by kernel_rfl) ?hS0 (fun hH => ?_)
                  case hS0 =>
                    rw [← HW2.out]; exact (CF.out W2 hb0).1
                  rw [← HW2.out] at hH ⊢
                  refine kYN 0 hH ?_
                  repeat simp only [Act.put, uA1, uB1, uC1]
                  refine kYN 2 hH ?_
                  repeat simp only [Act.put, uA1, uB1, uC1]
                  refine kYN 3 hH ?_
                  repeat simp only [Act.put, uA1, uB1, uC1]
                  refine kYN 4 hH ?_
                  repeat simp only [Act.put, uA1, uB1, uC1]
                  refine kYN 5 hH ?_
                  repeat simp only [Act.put, uA1, uB1, uC1]
                  refine kYN 6 hH ?_
                  repeat simp only [Act.put, uA1, uB1, uC1]
                  refine kYN 7 hH ?_
                  repeat simp only [Act.put, uA1, uB1, uC1]
                  refine kYN 9 hH ?_
                  repeat simp only [Act.put, uA1, uB1, uC1]
                  refine kYN 10 hH ?_
                  repeat simp only [Act.put, uA1, uB1, uC1]
                  refine kYN 11 hH ?_
                  repeat simp only [Act.put, uA1, uB1, uC1]
                  refine kYN 12 hH ?_
                  repeat simp only [Act.put, uA1, uB1, uC1]
                  refine kYN 13 hH ?_
                  repeat simp only [Act.put, uA1, uB1, uC1]
                  refine kYN 14 hH ?_
                  repeat simp only [Act.put, uA1, uB1, uC1]
                  refine kYN 15 hH ?_
                  repeat simp only [Act.put, uA1, uB1, uC1]
                  refine spkN 1 rfl (by decide) (by decide +kernel) (by rfl) (fun K' hK => ?_)
                  go_simp
                  have hr0 := own_empty W2 W2.heap.size 38 3 (Nat.le_refl _)
                  replace hb0 := hb0.alloc hb0.size (.cells #[] 38)
                  try dsimp only
                  refine hK.out _ _ ?hS (fun hH' => ?_)
                  case hS =>
                    exact (CF.out _ hb0).1
                  clear hK K' hH; have hH := hH'; clear hH'; repeat simp only [Act.put, uA1, uB1, uC1]
                  refine spkN 8 rfl (by decide) (by decide +kernel) (by rfl) (fun K' hK => ?_)
                  obtain ⟨q2, n2, c2, w2, hrun2, hr2, hg2, -⟩ := run_app rowHit hr0 hb0.size (S1.out.below hb0) (FO.out _) (by simp only [maxLen]; omega) (by omega)
                  refine wp_append_eq hrun2 _ _ rfl rfl rfl ?_
                  replace hb0 := hb0.grown hg2 hb0.size (fun b hb => (hr0.lt b hb).1)
                  simp only [Nat.zero_add, List.nil_append] at hr2
                  clear hrun2 hg2 hr0
                  try dsimp only
                  refine hK.out _ _ ?hS (fun hH' => ?_)
                  case hS =>
                    exact (CF.out _ hb0).1
                  clear hK K' hH; have hH := hH'; clear hH'; repeat simp only [Act.put, uA1, uB1, uC1]
                  refine spkN 16 rfl (by decide) (by decide +kernel) (by rfl) (fun K' hK => ?_)
                  obtain ⟨q3, n3, c3, w3, hrun3, hr3, hg3, -⟩ := run_app rowHit hr2 hb0.size (S2.out.below hb0) (FO.out _) (by simp only [maxLen]; omega) (by omega)
                  refine wp_append_eq hrun3 _ _ rfl rfl (by go_simp) ?_
                  replace hb0 := hb0.grown hg3 hb0.size (fun b hb => (hr2.lt b hb).1)
                  obtain ⟨y3, yf⟩ := CF.out _ hb0
                  rw [ER.out.1] at hr3
                  have LEN3 : m + (T.length - (m + 1)) = (T.eraseIdx m).length := by have := ER.out.2; have := HMT.out; omega
                  rw [LEN3] at hr3
                  have R := Lib.hid (And.intro (A2.out.without hb0 hr3) ((setBk_other (j := 2) (v := .slice q3 n3 c3) G2.out.2).trans ((hb0.block g (Array.getElem?_eq_some_iff.1 G2.out.1).1).trans G2.out.1)))
                  clear hrun3 hg3 hr2 hr3 LEN3
                  try dsimp only
                  refine hK.out _ _ ?hS (fun hH' => ?_)
                  case hS =>
                    exact (CF.out _ hb0).1
                  clear hK K' hH; have hH := hH'; clear hH'; repeat simp only [Act.put, uA1, uB1, uC1]
                  refine spkN 17 rfl (by decide) (by decide +kernel) (by rfl) (fun K' hK => ?_)
                  go_simp
                  try dsimp only
                  refine hK.out _ _ ?hS (fun hH' => ?_)
                  case hS =>
                    exact (CF.out _ hb0).1
                  clear hK K' hH; have hH := hH'; clear hH'; repeat simp only [Act.put, uA1, uB1, uC1]
                  refine kYN 18 hH ?_
                  repeat simp only [Act.put, uA1, uB1, uC1]
                  refine spkL rfl (by decide +kernel) (by rfl) (fun K' hK => ?_)
                  go_simp
                  try dsimp only
                  refine hK.out _ _ ?_
                  clear hK K' hH; repeat simp only [Act.put, uA1, uB1, uC1]
                  refine anyBut_done (by decide +kernel) ?_ _
                  go_wp2_with fail
                  go_meet
                  exact ⟨_, R.out⟩
                · have hcap' : ¬ ((tc : Int) = (m : Int) + 1) := by omega
                  have S2 := S2'
                  refine region_goN 19 (fun w' => w'.cell? ⟨b, 2, none⟩ = some (.slice (some ⟨gb, 0, none⟩) T.length tc)) (by kernel_rfl) ?hS0 (fun hH => ?_)
                  case hS0 =>
                    rw [← HW2.out]; exact (CF.out W2 hb0).1
                  rw [← HW2.out] at hH ⊢
                  refine kYN 0 hH ?_
                  repeat simp only [Act.put, uA1, uB1, uC1]
                  refine kYN 2 hH ?_
                  repeat simp only [Act.put, uA1, uB1, uC1]
                  refine kYN 3 hH ?_
                  repeat simp only [Act.put, uA1, uB1, uC1]
                  refine kYN 4 hH ?_
                  repeat simp only [Act.put, uA1, uB1, uC1]
                  refine kYN 5 hH ?_
                  repeat simp only [Act.put, uA1, uB1, uC1]
                  refine kYN 6 hH ?_
                  repeat simp only [Act.put, uA1, uB1, uC1]
                  refine kYN 7 hH ?_
                  repeat simp only [Act.put, uA1, uB1, uC1]
                  refine kYN 9 hH ?_
                  repeat simp only [Act.put, uA1, uB1, uC1]
                  refine kYN 10 hH ?_
                  repeat simp only [Act.put, uA1, uB1, uC1]
                  refine kYN 11 hH ?_
                  repeat simp only [Act.put, uA1, uB1, uC1]
                  refine kYN 12 hH ?_
                  repeat simp only [Act.put, uA1, uB1, uC1]
                  refine kYN 13 hH ?_
                  repeat simp only [Act.put, uA1, uB1, uC1]
                  refine kYN 14 hH ?_
                  repeat simp only [Act.put, uA1, uB1, uC1]
                  refine kYN 15 hH ?_
                  repeat simp only [Act.put, uA1, uB1, uC1]
                  refine spkN 1 rfl (by decide) (by decide +kernel) (by rfl) (fun K' hK => ?_)
                  go_simp
                  have hr0 := own_empty W2 W2.heap.size 38 3 (Nat.le_refl _)
                  replace hb0 := hb0.alloc hb0.size (.cells #[] 38)
                  try dsimp only
                  refine hK.out _ _ ?hS (fun hH' => ?_)
                  case hS =>
                    exact (CF.out _ hb0).1
                  clear hK K' hH; have hH := hH'; clear hH'; repeat simp only [Act.put, uA1, uB1, uC1]
                  refine spkN 8 rfl (by decide) (by decide +kernel) (by rfl) (fun K' hK => ?_)
                  obtain ⟨q2, n2, c2, w2, hrun2, hr2, hg2, -⟩ := run_app rowHit hr0 hb0.size (S1.out.below hb0) (FO.out _) (by simp only [maxLen]; omega) (by omega)
                  refine wp_append_eq hrun2 _ _ rfl rfl rfl ?_
                  replace hb0 := hb0.grown hg2 hb0.size (fun b hb => (hr0.lt b hb).1)
                  simp only [Nat.zero_add, List.nil_append] at hr2
                  clear hrun2 hg2 hr0
                  try dsimp only
                  refine hK.out _ _ ?hS (fun hH' => ?_)
                  case hS =>
                    exact (CF.out _ hb0).1
                  clear hK K' hH; have hH := hH'; clear hH'; repeat simp only [Act.put, uA1, uB1, uC1]
                  refine spkN 16 rfl (by decide) (by decide +kernel) (by rfl) (fun K' hK => ?_)
                  obtain ⟨q3, n3, c3, w3, hrun3, hr3, hg3, -⟩ := run_app rowHit hr2 hb0.size (S2.out.below hb0) (FO.out _) (by simp only [maxLen]; omega) (by omega)
                  refine wp_append_eq hrun3 _ _ rfl rfl (by go_simp) ?_
                  replace hb0 := hb0.grown hg3 hb0.size (fun b hb => (hr2.lt b hb).1)
                  obtain ⟨y3, yf⟩ := CF.out _ hb0
                  rw [ER.out.1] at hr3
                  have LEN3 : m + (T.length - (m + 1)) = (T.eraseIdx m).length := by have := ER.out.2; have := HMT.out; omega
                  rw [LEN3] at hr3
                  have R := Lib.hid (And.intro (A2.out.without hb0 hr3) ((setBk_other (j := 2) (v := .slice q3 n3 c3) G2.out.2).trans ((hb0.block g (Array.getElem?_eq_some_iff.1 G2.out.1).1).trans G2.out.1)))
                  clear hrun3 hg3 hr2 hr3 LEN3
                  try dsimp only
                  refine hK.out _ _ ?hS (fun hH' => ?_)
                  case hS =>
                    exact (CF.out _ hb0).1
                  clear hK K' hH; have hH := hH'; clear hH'; repeat simp only [Act.put, uA1, uB1, uC1]
                  refine spkN 17 rfl (by decide) (by decide +kernel) (by rfl) (fun K' hK => ?_)
                  go_simp
                  try dsimp only
                  refine hK.out _ _ ?hS (fun hH' => ?_)
                  case hS =>
                    exact (CF.out _ hb0).1
                  clear hK K' hH; have hH := hH'; clear hH'; repeat simp only [Act.put, uA1, uB1, uC1]
                  refine kYN 18 hH ?_
                  repeat simp only [Act.put, uA1, uB1, uC1]
                  refine spkL rfl (by decide +kernel) (by rfl) (fun K' hK => ?_)
                  go_simp
                  try dsimp only
                  refine hK.out _ _ ?_
                  clear hK K' hH; repeat simp only [Act.put, uA1, uB1, uC1]
                  refine anyBut_done (by decide +kernel) ?_ _
                  go_wp2_with fail
                  go_meet
                  exact ⟨_, R.out⟩
              case rest =>
              obtain ⟨tv, hA3, y3⟩ := hcut
              obtain ⟨W3, rfl⟩ : ∃ W : World, W = wc := ⟨_, rfl⟩
              have A3 := Lib.hid hA3
              have Y3 := Lib.hid y3
              have hLt : L = t.L := LK.out.best
              have GL := Lib.hid (show GoodL most L from hLt ▸ GS.out.best)
              have hLm := GL.out.len
              have cA := Lib.hid (refAll F c most most L W3 A3.out.best GL.out (by omega))
              have b0 : W3.cell? ⟨b, 0, none⟩ = some (.pointer (some ⟨c, 0, none⟩)) := cellsB hA3.cell 0
              obtain ⟨ov, hov⟩ : ∃ v, v = overB most L xh := ⟨_, rfl⟩
              have OV := Lib.hid hov
              have HLT := Lib.hid hLt
              clear hA3 y3 hb0 S1 S2' ER FO CF k1 k3 k4 k5 k6 HMT HW2 A2 hLt hov
              go_upto_region 21 with (go_at_call 79; (with_reducible refine cA.out.mono ?_); rintro e w5 ⟨v5, rfl, hh5, hb5⟩; obtain ⟨p5, c5, rfl, -, -, -, -⟩ := id hh5; have H5 := Lib.hid hh5; have B5 := Lib.hid hb5; clear hh5 hb5)
              obtain ⟨W5, hW5⟩ : ∃ W5, W5 = w5.drew := ⟨_, rfl⟩
              have hb55 : Below w5.heap.size w5 W5 := by rw [hW5]; exact (Below.refl _ _).drew
              have hb35 := B5.out.trans (hb55.mono B5.out.size)
              have A5 := Lib.hid (A3.out.below hb35)
              have y5 := (hb35.block g (Array.getElem?_eq_some_iff.1 Y3.out).1).trans Y3.out
              have Y5 := Lib.hid y5
              have HW5 := Lib.hid hW5
              have B55 := Lib.hid hb55
              have hg5 := Lib.hid (And.intro (cellsB y5 0) (And.intro (cellsB y5 1) (cellsB y5 2)))
              clear hW5 hb55 hb35 y5 b0
              go_cut [112] (fun s wc => s = .bool ov ∧ Below W5.heap.size W5 wc)
              case first =>
                by_cases hfull : L.length = most
                · obtain ⟨n1, hn1⟩ : ∃ n, L.length = n + 1 := ⟨L.length - 1, by omega⟩
                  have hnl : n1 < L.length := by omega
                  obtain ⟨rs5, -, -, hel5⟩ := H5.out.rows
                  obtain ⟨bb, ob, up, uc, -, rfl, -, -, q0, q1, q2, -, -⟩ := hel5 n1 hnl
                  obtain ⟨xl, hxl⟩ : ∃ xl, xl = L[n1] := ⟨_, rfl⟩
                  rw [← hxl] at q0 q1 q2
                  have I5 := Lib.hid (And.intro hg5.out (And.intro (below_cells B55.out q0) (And.intro (below_cells B55.out q1) (below_cells B55.out q2))))
                  obtain ⟨nv, hnv⟩ : ∃ v, v = xl.vec.length := ⟨_, rfl⟩
                  rw [← hnv] at I5
                  have OVN := Lib.hid (show ov = nearB xl.id xl.dist xh.id xh.dist from by
                    rw [OV.out, overB_some hm.1 hn1, ← hxl]
                    simp [hfull]
                    rfl)
                  have cN := Lib.hid (fun W : World => refNearer xl.id xl.dist xh.id xh.dist (.slice up nv uc) (.slice none 0 0) W)
                  rw [← OVN.out] at cN
                  have hge : (most : Int) ≤ (L.length : Int) := by omega
                  have hwn : IntKind.i64.wrap ((L.length : Int) - 1) = n1 := by simp [IntKind.wrap, IntKind.signed, IntKind.bits] <;> omega
                  have hn1' : (0 : Int) ≤ n1 ∧ (n1 : Int) < L.length := by omega
                  have hn2' : ((n1 : Nat) : Int).toNat = n1 := Int.toNat_natCast _
                  clear hn1 hfull hxl hnv q0 q1 q2 hel5
                  refine region_go (fun w' => (w'.cell? ⟨g, 0, none⟩ = some (.int .u64 xh.id) ∧ w'.cell? ⟨g, 1, none⟩ = some (.int .u64 xh.dist) ∧ w'.cell? ⟨g, 2, none⟩ = some (.slice none 0 0)) ∧ w'.cell? ⟨bb, ob + n1 * 3, none⟩ = some (.int .u64 xl.id) ∧ w'.cell? ⟨bb, ob + n1 * 3 + 1, none⟩ = some (.int .u64 xl.dist) ∧ w'.cell? ⟨bb, ob + n1 * 3 + 1 + 1, none⟩ = some (.slice up nv uc)) (by kernel_rfl) ?hS0 (fun hH => ?_)
                  case hS0 =>
                    rw [← HW5.out]; exact I5.out
                  rw [← HW5.out] at hH ⊢
                  refine kY 0 hH ?_
                  repeat simp only [Act.put, uA1, uB1, uC1]
                  refine kY 1 hH ?_
                  repeat simp only [Act.put, uA1, uB1, uC1]
                  refine kY 2 hH ?_
                  repeat simp only [Act.put, uA1, uB1, uC1]
                  refine kY 3 hH ?_
                  repeat simp only [Act.put, uA1, uB1, uC1]
                  refine kY 4 hH ?_
                  repeat simp only [Act.put, uA1, uB1, uC1]
                  refine kY 5 hH ?_
                  repeat simp only [Act.put, uA1, uB1, uC1]
                  refine kY 6 hH ?_
                  repeat simp only [Act.put, uA1, uB1, uC1]
                  refine kY 7 hH ?_
                  repeat simp only [Act.put, uA1, uB1, uC1]
                  refine kY 8 hH ?_
                  repeat simp only [Act.put, uA1, uB1, uC1]
                  refine kY 9 hH ?_
                  repeat simp only [Act.put, uA1, uB1, uC1]
                  refine kY 10 hH ?_
                  repeat simp only [Act.put, uA1, uB1, uC1]
                  refine kY 11 hH ?_
                  repeat simp only [Act.put, uA1, uB1, uC1]
                  refine spk 12 rfl (by decide +kernel) (by rfl) (fun K' hK => ?_)
                  go_simp
                  with_reducible refine (cN.out _).mono ?_
                  rintro e w6 ⟨rfl, hb6⟩
                  try dsimp only
                  refine hK.out _ _ ?hS (fun hH' => ?_)
                  case hS =>
                    exact ⟨⟨below_cells hb6 hH.1.1, below_cells hb6 hH.1.2.1, below_cells hb6 hH.1.2.2⟩, below_cells hb6 hH.2.1, below_cells hb6 hH.2.2.1, below_cells hb6 hH.2.2.2⟩
                  clear hK K' hH; have hH := hH'; clear hH'; repeat simp only [Act.put, uA1, uB1, uC1]
                  refine kY 13 hH ?_
                  repeat simp only [Act.put, uA1, uB1, uC1]
                  refine wpAnyH_done (by decide +kernel) ?_ _
                  go_wp2_with fail
                  go_meet
                  exact ⟨rfl, hb6⟩
                · have hge : ¬ (most : Int) ≤ (L.length : Int) := by omega
                  have hov : ov = false := by rw [OV.out]; unfold overB; simp [hfull]
                  subst hov
                  clear hfull
                  refine region_go (fun w' => True) (by kernel_rfl) ?hS0 (fun hH => ?_)
                  case hS0 =>
                    trivial
                  rw [← HW5.out]
                  refine kY 0 hH ?_
                  repeat simp only [Act.put, uA1, uB1, uC1]
                  refine kY 1 hH ?_
                  repeat simp only [Act.put, uA1, uB1, uC1]
                  refine kY 2 hH ?_
                  repeat simp only [Act.put, uA1, uB1, uC1]
                  refine kY 3 hH ?_
                  repeat simp only [Act.put, uA1, uB1, uC1]
                  refine kY 4 hH ?_
                  repeat simp only [Act.put, uA1, uB1, uC1]
                  refine kN 5 hH ?_
                  repeat simp only [Act.put, uA1, uB1, uC1]
                  refine kN 6 hH ?_
                  repeat simp only [Act.put, uA1, uB1, uC1]
                  refine kN 7 hH ?_
                  repeat simp only [Act.put, uA1, uB1, uC1]
                  refine kN 8 hH ?_
                  repeat simp only [Act.put, uA1, uB1, uC1]
                  refine kN 9 hH ?_
                  repeat simp only [Act.put, uA1, uB1, uC1]
                  refine kN 10 hH ?_
                  repeat simp only [Act.put, uA1, uB1, uC1]
                  refine kN 11 hH ?_
                  repeat simp only [Act.put, uA1, uB1, uC1]
                  refine kN 12 hH ?_
                  repeat simp only [Act.put, uA1, uB1, uC1]
                  refine kY 13 hH ?_
                  repeat simp only [Act.put, uA1, uB1, uC1]
                  refine wpAnyH_done (by decide +kernel) ?_ _
                  go_wp2_with fail
                  go_meet
                  exact ⟨rfl, Below.refl _ _⟩
              case rest =>
              obtain ⟨rfl, hbc⟩ := hcut
              obtain ⟨WQ, rfl⟩ : ∃ W : World, W = wc := ⟨_, rfl⟩
              have AQ := Lib.hid (A5.out.below hbc)
              have YQ := Lib.hid ((hbc.block g (Array.getElem?_eq_some_iff.1 Y5.out).1).trans Y5.out)
              clear hbc
              cases ov with
              | true =>
                have hgo : goW far nr most M t = (t.L, 0) := by
                  rw [← HUN.out.1]
                  have ho := OV.out
                  rw [HLT.out] at ho
                  simp only [goW, HL.out, ← ho, if_true]
                have FIN := Lib.hid (show n = R2 from by have h := HUN.out.2.2; rw [hgo] at h; exact h)
                have HRL := Lib.hid (show L = R1 from by have h := HUN.out.2.1; rw [hgo] at h; exact HLT.out.trans h)
                have WA := Lib.hid AQ.out
                clear hgo
                have cA := Lib.hid (refAllT F c most most L WQ WA.out.best (show GoodL most L from (show L = t.L from LK.out.best) ▸ GS.out.best) (by have := GS.out.best.len; have := (show L = t.L from LK.out.best); subst this; omega))
                have b0 : WQ.cell? ⟨b, 0, none⟩ = some (.pointer (some ⟨c, 0, none⟩)) := cellsB WA.out.cell 0
                have OLD := Lib.hid WA.out.old
                go_wp2_with (go_at_call 79; (with_reducible refine cA.out.mono ?_); rintro e w9 ⟨v9, rs9, rfl, ho9, hr9, hb9⟩; obtain ⟨p9, m9, c9, rfl⟩ := own_form ho9; have RH := Lib.hid (And.intro ho9 (And.intro hr9 hb9)); clear ho9 hr9 hb9)
                go_ret2
                have fin := FIN.out
                subst fin
                exact ⟨_, rs9, rfl, by rw [← HRL.out]; exact own_mono RH.out.1 OLD.out.size, by rw [← HRL.out]; exact rows_bare RH.out.2.1 (fun y hy => GS.out.plain y (by rw [← LK.out.best]; exact hy)), OLD.out.trans (RH.out.2.2.mono OLD.out.size)⟩
              | false =>
                have hgo : goW far nr most M t = ((goW far nr most M (lookW far most false ⟨t.L, t.S, t.T.dropLast⟩ (nr xh.id))).1, (goW far nr most M (lookW far most false ⟨t.L, t.S, t.T.dropLast⟩ (nr xh.id))).2 + 1) := by
                  rw [← HUN.out.1]
                  have ho := OV.out
                  rw [HLT.out] at ho
                  simp only [goW, HL.out, ← ho, Bool.false_eq_true, if_false]
                have HGO := Lib.hid hgo
                have gP := Lib.hid GS.out.pop
                obtain ⟨W7, hW7⟩ : ∃ W7, W7 = WQ.drew := ⟨_, rfl⟩
                have hb7 : Below WQ.heap.size WQ W7 := by rw [hW7]; exact (Below.refl _ _).drew
                have A7 := Lib.hid (AQ.out.below hb7)
                have y7 := (hb7.block g (Array.getElem?_eq_some_iff.1 YQ.out).1).trans YQ.out
                have cK := Lib.hid (CNN.out W7 A7.out.old xh.id)
                have I7 := Lib.hid (show W7.cell? ⟨x, 0, none⟩ = some gv ∧ W7.cell? ⟨g, 0, none⟩ = some (.int .u64 xh.id) from ⟨below_cells A7.out.old HX.out, cellsB y7 0⟩)
                have HW7 := Lib.hid hW7
                clear hgo hb7 y7 hW7
                go_upto_region 23 with fail
                refine region_go (fun w' => w'.cell? ⟨x, 0, none⟩ = some gv ∧ w'.cell? ⟨g, 0, none⟩ = some (.int .u64 xh.id)) (by kernel_rfl) ?hS0 (fun hH => ?_)
                case hS0 =>
                  rw [← HW7.out]; exact I7.out
                rw [← HW7.out] at hH ⊢
                refine kY 0 hH ?_
                repeat simp only [Act.put, uA1, uB1, uC1]
                refine kY 1 hH ?_
                repeat simp only [Act.put, uA1, uB1, uC1]
                refine kY 2 hH ?_
                repeat simp only [Act.put, uA1, uB1, uC1]
                refine kY 3 hH ?_
                repeat simp only [Act.put, uA1, uB1, uC1]
                refine kY 4 hH ?_
                repeat simp only [Act.put, uA1, uB1, uC1]
                refine kY 5 hH ?_
                repeat simp only [Act.put, uA1, uB1, uC1]
                refine kY 8 hH ?_
                repeat simp only [Act.put, uA1, uB1, uC1]
                refine spk 6 rfl (by decide +kernel) (by rfl) (fun K' hK => ?_)
                go_simp
                with_reducible refine cK.out.mono ?_
                rintro e w8 ⟨v8, rfl, ho8, hb8⟩
                obtain ⟨q8, n8, k8, rfl⟩ := own_form ho8
                obtain rfl : n8 = (nr xh.id).length := own_len ho8
                try dsimp only
                refine hK.out _ _ ?hS (fun hH' => ?_)
                case hS =>
                  exact ⟨below_cells hb8 hH.1, below_cells hb8 hH.2⟩
                clear hK K' hH; have hH := hH'; clear hH'; repeat simp only [Act.put, uA1, uB1, uC1]
                refine kY 7 hH ?_
                repeat simp only [Act.put, uA1, uB1, uC1]
                refine wpAnyH_done (by decide +kernel) ?_ _
                have A8 := Lib.hid (A7.out.newkeys hb8 ho8)
                have NL := Lib.hid (And.intro (Nums.of_own ho8) (own_short ho8))
                clear hH ho8 hb8
                obtain ⟨nks, hnks⟩ : ∃ l, l = nr xh.id := ⟨_, rfl⟩
                rw [← hnks] at A8 NL HGO ⊢
                have hnk9 := NL.out.2
                have LK2 := Lib.hid (show Like ⟨L, S, T.eraseIdx m⟩ ⟨t.L, t.S, t.T.dropLast⟩ from ⟨LK.out.best, LK.out.seen, PM.out⟩)
                clear hnks
                go_wp2_with fail
                go_loopg [123] nks.length (fun q i wr => ∃ (j : Nat) (F : Nat → Prop) (sv tv : Value), q = nks.length - j ∧ j ≤ nks.length ∧ i = .int .i64 j ∧ RsAt (.slice q8 nks.length k8) nks w0 wr b c F most sv tv (lookR far most false ⟨L, S, T.eraseIdx m⟩ (nks.take j)).L (lookR far most false ⟨L, S, T.eraseIdx m⟩ (nks.take j)).S (lookR far most false ⟨L, S, T.eraseIdx m⟩ (nks.take j)).T)
                case atStart => exact ⟨0, F, _, _, rfl, by omega, rfl, A8.out⟩
                case round =>
                  obtain ⟨j, F, sv, tv, rfl, hj, rfl, hRs⟩ := hrel
                  by_cases hlt : j < nks.length
                  · have LK := Lib.hid (LK2.out.look far most false (nks.take j))
                    have GT := Lib.hid (gP.out.look hKf hm.1 false (nks.take j))
                    have RS := Lib.hid hRs
                    obtain ⟨bb, ob, rfl, hcell⟩ := hRs.keys.elem hlt
                    have SN := Lib.hid (lookR_snoc far most false ⟨L, S, T.eraseIdx m⟩ nks j hlt)
                    obtain ⟨st, hst⟩ : ∃ st, st = lookR far most false ⟨L, S, T.eraseIdx m⟩ (nks.take j) := ⟨_, rfl⟩
                    obtain ⟨y, hy⟩ : ∃ y, y = nks[j] := ⟨_, rfl⟩
                    rw [← hst] at LK RS SN
                    rw [← hy] at hcell SN
                    clear hRs hst hy
                    have gS := GT.out.best
                    have gsm := GT.out.small
                    have gTl := LK.out.todo.length_eq
                    have cS := Lib.hid (wSee _ _ w0 wr x far (fun W hb k => CFF.out W hb k) b c F most (by omega) sv tv st RS.out (by rw [LK.out.best]; exact gS) (by rw [LK.out.seen]; omega) (by omega) y false)
                    clear gS gsm gTl
                    go_wp2_with (go_at_call 78; (with_reducible refine cS.out.mono ?_); rintro e w2 ⟨rfl, F2, sv2, tv2, hA2⟩; have A2 := Lib.hid hA2; clear hA2)
                    go_roundg (nks.length - (j + 1))
                    case measure => omega
                    case rel => exact ⟨j + 1, F2, sv2, tv2, rfl, by omega, by go_num, by rw [SN.out]; exact A2.out⟩
                  · obtain rfl : j = nks.length := by omega
                    rw [List.take_length] at hRs
                    have LK := Lib.hid (LK2.out.look far most false nks)
                    have GT := Lib.hid (gP.out.look hKf hm.1 false nks)
                    have RS := Lib.hid hRs.bare
                    have hst2 : lessW K (lookW far most false ⟨t.L, t.S, t.T.dropLast⟩ nks) + 1 ≤ lessW K t := by
                      have h1 := pop_less (K := K) (s := t) (by rintro e; have h := HL.out; rw [e] at h; cases h)
                      have h2 := look_less (most := most) hKf false nks ⟨t.L, t.S, t.T.dropLast⟩
                      omega
                    have QQ := Lib.hid (And.intro hst2 Q1.out)
                    have R1Q := Lib.hid (show (goW far nr most M (lookW far most false ⟨t.L, t.S, t.T.dropLast⟩ nks)).1 = R1 from by have h := HUN.out.2.1; rw [HGO.out] at h; exact h)
                    have R2Q := Lib.hid (show n + 1 + (goW far nr most M (lookW far most false ⟨t.L, t.S, t.T.dropLast⟩ nks)).2 = R2 from by have h := HUN.out.2.2; rw [HGO.out] at h; simp only at h; omega)
                    clear hst2 hRs
                    go_wp2_with fail
                    go_roundg (lessW K (lookW far most false ⟨t.L, t.S, t.T.dropLast⟩ nks))
                    case measure => have := QQ.out; omega
                    case rel => exact ⟨n + 1, F, sv, tv, _, _, by go_num, Nat.le_refl _, RS.out, LK.out, GT.out, R1Q.out, R2Q.out⟩

end Go.Proofs.YtpjbkaibgajpcaaGreat
