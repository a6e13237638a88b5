/- maze: Find. maze's laws: the document's example. -/
import Derived.Test.YtpjbkaibgajpcaaGreatJ36
import Derived.Test.YtpjbkaibgajpcaaGreatJ35
import Derived.OwnWalk
namespace Go.Proofs.YtpjbkaibgajpcaaGreat
open Go.RowKit Go.ChangeMaps
set_option maxRecDepth 20000

theorem Held3.setv {w : World} {B E : Nat} {rs : List Hv} {l : List Hz} (h : Held3 w B E rs l) {k : Nat} (hk : k < rs.length) (hl : k < l.length) {u : Value} {xs : List Int} (hu : w.ownsRow B E 1 u xs.length (xs.map (Value.int .i32)))
    (hap : ∀ r ∈ rs, ∀ b, u.ownBlock = some b → r.vec.ownBlock ≠ some b) : Held3 w B E (rs.set k ⟨rs[k].id, rs[k].dist, u⟩) (l.set k ⟨l[k].id, l[k].dist, xs⟩) := by
  refine ⟨by simp [h.len], fun i h1 h2 => ?_, ?_⟩
  · rw [List.length_set] at h1 h2
    rw [List.getElem_set, List.getElem_set]
    by_cases e : k = i
    · subst e
      obtain ⟨a, c⟩ := h.own k hk hl
      rw [if_pos rfl, if_pos rfl]
      exact ⟨a, hu⟩
    · rw [if_neg e, if_neg e]
      exact h.own i h1 h2
  · rw [List.pairwise_iff_getElem]
    intro i j hi hj hij
    rw [List.length_set] at hi hj
    have hp := List.pairwise_iff_getElem.1 h.apart i j hi hj hij
    rw [List.getElem_set, List.getElem_set]
    by_cases e1 : k = i
    · rw [if_pos e1, if_neg (by omega)]
      show u.ownBlock = none ∨ u.ownBlock ≠ rs[j].vec.ownBlock
      cases hb : u.ownBlock with
      | none => exact .inl rfl
      | some b => exact .inr (Ne.symm (hap _ (List.getElem_mem hj) b hb))
    · rw [if_neg e1]
      by_cases e2 : k = j
      · rw [if_pos e2]
        show rs[i].vec.ownBlock = none ∨ rs[i].vec.ownBlock ≠ u.ownBlock
        cases hb : u.ownBlock with
        | none =>
          cases hc : rs[i].vec.ownBlock with
          | none => exact .inl rfl
          | some c => exact .inr (by simp)
        | some b => exact .inr (hap _ (List.getElem_mem hi) b hb)
      · rw [if_neg e2]
        exact hp

def toldN (s : Mz) (R : List Hz) (j : Nat) : List Hz := (R.take j).map (toldM s) ++ R.drop j

theorem toldN_length (s : Mz) (R : List Hz) (j : Nat) : (toldN s R j).length = R.length := by
  unfold toldN
  simp
  omega

theorem toldN_at (s : Mz) (R : List Hz) (j : Nat) (hj : j < R.length) : (toldN s R j)[j]'(by rw [toldN_length]; exact hj) = R[j] := by
  unfold toldN
  rw [List.getElem_append_right (by simp; omega)]
  simp [Nat.min_eq_left (Nat.le_of_lt hj)]

theorem toldN_step (s : Mz) (R : List Hz) (j : Nat) (hj : j < R.length) : toldN s R (j + 1) = (toldN s R j).set j (toldM s R[j]) := by
  unfold toldN
  rw [List.set_append_right _ _ (by simp; omega), List.take_succ_eq_append_getElem hj, List.map_append, List.append_assoc]
  congr 1
  rw [List.length_map, List.length_take, Nat.min_eq_left (Nat.le_of_lt hj), Nat.sub_self, List.drop_eq_getElem_cons hj, List.set_cons_zero]
  rfl

def FindTells (w : World) (R : List Hz × Nat × Int) (e : Ending) (w' : World) : Prop :=
  ∃ u rs, e = .returned (.tuple #[u, .int .i64 R.2.1, .int .i64 R.2.2]) ∧ w'.ownsRow w.heap.size 38 3 u rs.length (flat3 rs) ∧ Held3 w' w.heap.size 21 rs R.1 ∧ Below w.heap.size w w'

theorem FindTells.none {w : World} {c : Int} : FindTells w ([], 0, c) (.returned (.tuple #[.slice none 0 0, .int .i64 0, .int .i64 c])) w :=
  ⟨_, [], rfl, World.ownsRow_nil _ _ _ _, Held3.nil _ _ _, Below.refl _ _⟩

set_option maxRecDepth 100000 in
set_option maxHeartbeats 16000000 in
theorem mFind {B : Nat} {w : World} {z p m mv : Nat} {Q : Gr} {dim en : Int} {VL : List (Int × Value)} {s : Mz} (h : MzAt B w z p m mv Q dim en VL s) (hen : en = entryZ s.L) (ok : OkM dim s) (hL : s.L.length ≤ 900) (v : Value) (xs : List Int) (hv : Nums w .i32 v xs) (ef : Int) :
    Calls Tryz.prog 13 #[.pointer (some ⟨z, 0, none⟩), v, .int .i64 ef] w (FindTells w (findM dim s xs ef)) := by
  have hNL := ok_len ok
  have H := Lib.hid h
  have cR := Lib.hid (mRight w z dim v xs (cellsB h.cell 1) hv)
  have cL := Lib.hid h.length
  have V := Lib.hid hv
  have OK := Lib.hid ok
  have EN := Lib.hid hen
  obtain ⟨vq, vc, rfl, -, -, -, -⟩ := hv.slice
  unfold findM
  by_cases h1 : ef < 1
  · rw [if_pos (.inl h1)]
    clear h hen ok hv
    go_enter Tryz.func13, Tryz.ntmps13
    go_wp2_with fail
    go_ret3
    exact FindTells.none
  by_cases h2 : 256 < ef
  · rw [if_pos (.inr h2)]
    clear h hen ok hv
    go_enter Tryz.func13, Tryz.ntmps13
    go_wp2_with fail
    go_ret3
    exact FindTells.none
  rw [if_neg (by omega)]
  cases hr : rightZ dim xs with
  | false =>
    rw [if_pos rfl]
    rw [hr] at cR
    clear h hen ok hv hr
    go_enter Tryz.func13, Tryz.ntmps13
    go_wp2_with fail
    (with_reducible refine cR.out.mono ?_)
    rintro e w1 ⟨rfl, rfl⟩
    go_wp2_with fail
    go_ret3
    exact FindTells.none
  | true =>
    rw [if_neg (by simp)]
    rw [hr] at cR
    have HR := Lib.hid hr
    obtain ⟨n0, hn0⟩ : ∃ n, n = s.N.length := ⟨_, rfl⟩
    rw [← hn0] at cL hNL
    have hNL := Lib.hid hNL
    have hN9 : s.N.length ≤ 900 := by have := hNL.out; omega
    by_cases hL0 : s.L = []
    · rw [if_pos hL0]
      have hb1 : ((n0 : Int) == 0) = true := by have := hNL.out; rw [hL0] at this; simp at this; simp [this]
      clear h hen ok hv hr hn0 hL0
      go_enter Tryz.func13, Tryz.ntmps13
      go_wp2_with fail
      (with_reducible refine cR.out.mono ?_)
      rintro e w1 ⟨rfl, rfl⟩
      go_wp2_with fail
      (with_reducible refine cL.out.mono ?_)
      rintro e w2 ⟨rfl, rfl⟩
      go_wp2_with fail
      go_ret3
      exact FindTells.none
    · rw [if_neg hL0]
      have hb1 : ((n0 : Int) == 0) = false := by
        have h1 := hNL.out
        have h2 : s.L.length ≠ 0 := fun e => hL0 (List.eq_nil_of_length_eq_zero e)
        simp only [beq_eq_false_iff_ne, ne_eq]
        omega
      have x3 := cellsB H.out.cell 3
      obtain ⟨W4, hW4⟩ : ∃ W4, W4 = w.alloc (.cells #[.int .u64 en] 36) := ⟨_, rfl⟩
      have hb4 : Below w.heap.size w W4 := by rw [hW4]; exact (Below.refl _ _).alloc (Nat.le_refl _) _
      have y4 : W4.heap[w.heap.size]? = some (.cells #[.int .u64 en] 36 (0, 0)) := by rw [hW4]; exact heap_alloc_new _ _
      have H4 := Lib.hid (H.out.below hb4)
      have cW := Lib.hid (H4.out.walk OK.out (by omega) (by omega) (.slice vq xs.length vc) xs (V.out.below hb4) HR.out ef.toNat (by omega) (.slice (some ⟨w.heap.size, 0, none⟩) 1 1) [en] (Nums.mk (xs := [en]) (by simp) (by simp) (by simp) (fun i hi => ⟨w.heap.size, 0, rfl, by
        have hi1 : i < 1 := hi
        obtain rfl : i = 0 := by omega
        exact cellsB y4 0⟩)) (fun k hk _ => by simp only [Value.ownBlock, Option.some.injEq] at hk; rw [← hk]; exact lt_block y4))
      rw [show ((ef.toNat : Nat) : Int) = ef by omega] at cW
      rw [← EN.out]
      have hRl := (resW_bare (spaceZ s.L xs) s.E (most := ef.toNat) (by omega) [en]).2
      obtain ⟨R, hR⟩ : ∃ l, l = (resW (spaceZ s.L xs) s.E ef.toNat [en]).1 := ⟨_, rfl⟩
      obtain ⟨nn, hnn⟩ : ∃ n, n = (resW (spaceZ s.L xs) s.E ef.toNat [en]).2 := ⟨_, rfl⟩
      rw [← hR, ← hnn] at cW ⊢
      rw [← hR] at hRl
      have B4 := Lib.hid hb4
      have HW4 := Lib.hid hW4
      clear h hen ok hv hr hn0 hL0 hW4 hb4 y4 hR hnn
      go_enter Tryz.func13, Tryz.ntmps13
      go_wp2_with fail
      (with_reducible refine cR.out.mono ?_)
      rintro e w1 ⟨rfl, rfl⟩
      go_wp2_with fail
      (with_reducible refine cL.out.mono ?_)
      rintro e w2 ⟨rfl, rfl⟩
      go_wp2_with fail
      rw [← HW4.out]
      (with_reducible refine cW.out.mono ?_)
      rintro e w5 ⟨v5, rs5, rfl, ho5, hh5, hb5⟩
      obtain ⟨pp, pn, cap, rfl⟩ := own_form ho5
      obtain rfl : pn = rs5.length := own_len ho5
      obtain hpn : rs5.length = R.length := hh5.len
      rw [hpn] at ho5
      rw [hpn]
      have O0 := Lib.hid (show w5.ownsRow w2.heap.size 38 3 (.slice pp R.length cap) rs5.length (flat3 rs5) ∧ Held3 w5 w2.heap.size 21 rs5 (toldN s R 0) ∧ Below w2.heap.size w2 w5 from by
        refine ⟨by rw [hpn]; exact own_mono ho5 B4.out.size, ?_, B4.out.trans (hb5.mono B4.out.size)⟩
        have : toldN s R 0 = R := by simp [toldN]
        rw [this]
        exact hh5.mono B4.out.size)
      clear ho5 hh5 hb5 hpn x3
      go_wp2_with fail
      go_loopg [47] R.length (fun q' i wr => ∃ (j : Nat) (rs : List Hv), q' = R.length - j ∧ j ≤ R.length ∧ i = .int .i64 j ∧ wr.ownsRow w2.heap.size 38 3 (.slice pp R.length cap) rs.length (flat3 rs) ∧ Held3 wr w2.heap.size 21 rs (toldN s R j) ∧ Below w2.heap.size w2 wr)
      case atStart => exact ⟨0, rs5, rfl, by omega, rfl, O0.out.1, O0.out.2.1, O0.out.2.2⟩
      case round =>
        obtain ⟨j, rs, rfl, hj, rfl, ho, hh, hb⟩ := hrel
        have hlr : rs.length = R.length := by rw [hh.len, toldN_length]
        by_cases hlt : j < R.length
        · obtain ⟨g, cg, hv, -, -⟩ := ho.form (by omega)
          obtain ⟨rfl, -, rfl⟩ := Value.slice.inj hv
          have hflat := flat3_get rs j (by omega)
          have hid : rs[j].id = R[j].id := by
            have h1 := (hh.own j (by omega) (by rw [toldN_length]; exact hlt)).1.1
            rw [toldN_at s R j hlt] at h1
            exact h1
          have hid := Lib.hid hid
          have c0 : wr.cell? ⟨g, j * 3, none⟩ = some (.int .u64 rs[j].id) := own_cell ho rfl hflat.1
          obtain ⟨yi, hyi⟩ : ∃ i, i = rs[j].id := ⟨_, rfl⟩
          rw [← hyi] at c0
          have YI := Lib.hid (hyi.trans hid.out)
          have cV := Lib.hid (mVec (H.out.below hb) OK.out yi)
          have j0 : (0 : Int) ≤ (j : Int) := by omega
          have j1 : (j : Int) < (R.length : Int) := by omega
          have KK := Lib.hid (And.intro ho (And.intro hh hb))
          clear ho hh hb hflat hid hyi hv
          go_wp2_with fail
          (with_reducible refine cV.out.mono ?_)
          rintro e w6 ⟨v6, rfl, ho6, hb6⟩
          obtain ⟨vq6, vn6, vc6, rfl⟩ := own_form ho6
          have ho6b := own_below KK.out.1 hb6
          have hthere := own_there ho6b rfl (j * 3 + 2) 1 (by omega)
          obtain ⟨hc0, hf0⟩ := hthere 0 (by omega)
          simp only [Nat.add_zero] at hc0 hf0
          obtain ⟨z0, hc0⟩ := Option.isSome_iff_exists.1 hc0
          have K6 := Lib.hid (And.intro ho6 (And.intro hb6 ho6b))
          clear hthere ho6 hb6 ho6b
          go_wp2_with fail
          go_roundg (R.length - (j + 1))
          case measure => omega
          case rel =>
            have hg1 := K6.out.2.2
            have hsc := own_setCell hg1 rfl (o := j * 3 + 1 + 1) (by omega) (.slice vq6 vn6 vc6)
            rw [flat3_setv _ _ (by omega)] at hsc
            refine ⟨j + 1, rs.set j ⟨rs[j].id, rs[j].dist, .slice vq6 vn6 vc6⟩, rfl, by omega, by go_num, by rw [List.length_set]; exact hsc, ?_, ?_⟩
            · have hgrow : w6.grownBy (w6.setCell ⟨g, j * 3 + 1 + 1, none⟩ (.slice vq6 vn6 vc6)) (some g) := grownBy_setCells g [_] (j * 3 + 1 + 1) w6
              have h1 := (KK.out.2.1.below K6.out.2.1).other hg1 (by decide) hgrow
              have h6 := K6.out.1
              have hs6 := KK.out.2.2.size
              have hu := own_mono (h6.kept hgrow (.inr (by
                intro e
                have := OfType.ne (own_type h6 e) (own_type hg1 rfl)
                exact absurd this (by decide)))) hs6
              have h2 := h1.setv (k := j) (by omega) (by rw [toldN_length]; exact hlt) hu (fun r hr b hb hc => by
                have h3 := (KK.out.2.1.lt hr b hc).2
                have h4 := (h6.lt b hb).1
                omega)
              rw [toldN_step s R j hlt, show toldM s R[j] = ⟨((toldN s R j)[j]'(by rw [toldN_length]; exact hlt)).id, ((toldN s R j)[j]'(by rw [toldN_length]; exact hlt)).dist, vecOf s.L yi⟩ from by rw [toldN_at s R j hlt, YI.out]; rfl]
              exact h2
            · have h3 := (hg1.lt g rfl).1
              have hs6 := KK.out.2.2.size
              exact (KK.out.2.2.trans (K6.out.2.1.mono hs6)).setCell (show w2.heap.size ≤ g from h3) _
        · obtain rfl : j = R.length := by omega
          have FIN := Lib.hid (show FindTells w2 (R.map (toldM s), nn, 0) (.returned (.tuple #[.slice pp R.length cap, .int .i64 nn, .int .i64 0])) wr from by
            refine ⟨_, rs, rfl, ho, ?_, hb⟩
            have : toldN s R R.length = R.map (toldM s) := by simp [toldN]
            rw [← this]
            exact hh)
          clear ho hh hb
          go_wp2_with fail
          go_ret3
          exact FIN.out

end Go.Proofs.YtpjbkaibgajpcaaGreat

namespace Go.Proofs.YtpjbkaibgajpcaaGreat
open Go.RowKit Go.ChangeMaps
set_option maxRecDepth 20000

def exV : List Int := [0, 5, 9]
def exM : Nat → Mz
  | 0 => emptyM
  | j + 1 => (putM 1 (exM j) ((j : Int) + 1) [exV.getD j 0]).2

theorem ex_put : ∀ j, j < 3 → (putM 1 (exM j) ((j : Int) + 1) [exV.getD j 0]).1 = 0 := by decide +kernel
theorem ex_find : (findM 1 (exM 3) [8] 1).1 = [⟨3, 1, [9]⟩] ∧ (findM 1 (exM 3) [8] 1).2.2 = 0 := by decide +kernel
theorem ex_len : ∀ j, j < 4 → (exM j).L.length = j := by decide +kernel

theorem exM_ok (j : Nat) : OkM 1 (exM j) := by
  induction j with
  | zero => exact OkM.empty 1
  | succ j ih => exact ih.put _ _

set_option maxRecDepth 100000 in
set_option maxHeartbeats 8000000 in
theorem awake11 (w : World) : Calls Tryz.prog 10 #[] w fun e w' => e = .returned (.bool true) ∧ Below w.heap.size w w' := by
  have cN := Lib.hid (mNew w 1 (by decide))
  go_enter Tryz.func10, Tryz.ntmps10
  go_wp2_with fail
  (with_reducible refine cN.out.mono ?_)
  rintro e w1 ⟨z, p, m, mv, Q, rfl, hA, hb1⟩
  obtain ⟨W2, hW2⟩ : ∃ W2, W2 = w1.alloc (.cells #[.int .i32 0, .int .i32 5, .int .i32 9] 21) := ⟨_, rfl⟩
  have hb2 : Below w1.heap.size w1 W2 := by rw [hW2]; exact (Below.refl _ _).alloc (Nat.le_refl _) _
  have y2 : W2.heap[w1.heap.size]? = some (.cells #[.int .i32 0, .int .i32 5, .int .i32 9] 21 (0, 0)) := by rw [hW2]; exact heap_alloc_new _ _
  have A2 := Lib.hid (hA.below hb2)
  have B1 := Lib.hid hb1
  have M2 := Lib.hid (show Mod (MTurn w1 w.heap.size) w1 W2 from Mod.of_below hb2)
  obtain ⟨t, ht⟩ : ∃ t, t = w1.heap.size := ⟨_, rfl⟩
  have B12 := Lib.hid hb2
  have Y2 := Lib.hid y2
  have HW2 := Lib.hid hW2
  clear hA hb1 hb2 y2 hW2
  go_wp2_with fail
  rw [← HW2.out]
  rw [← ht] at Y2 ⊢
  clear ht
  go_loopg [20] 3 (fun q' i wr => ∃ (j : Nat) (Q : Gr) (VL : List (Int × Value)), q' = 3 - j ∧ j ≤ 3 ∧ i = .int .i64 j ∧ MzAt w.heap.size wr z p m mv Q 1 (entryZ (exM j).L) VL (exM j) ∧ Mod (MTurn w1 w.heap.size) w1 wr ∧ wr.heap[t]? = some (.cells #[.int .i32 0, .int .i32 5, .int .i32 9] 21 (0, 0)))
  case atStart => exact ⟨0, Q, [], rfl, by omega, rfl, A2.out, M2.out, Y2.out⟩
  case round =>
    obtain ⟨j, Q, VL, rfl, hj, rfl, hA, hM, hy⟩ := hrel
    by_cases hlt : j < 3
    · have e0 : wr.cell? ⟨t, j, none⟩ = some (.int .i32 (exV.getD j 0)) := by
        rw [cellsB hy j]
        match j, hlt with
        | 0, _ => rfl
        | 1, _ => rfl
        | 2, _ => rfl
      have hcode := ex_put j hlt
      have hlen := ex_len j (by omega)
      obtain ⟨n, hn⟩ : ∃ n, n = exV.getD j 0 := ⟨_, rfl⟩
      have hnx : exM (j + 1) = (putM 1 (exM j) ((j : Int) + 1) [n]).2 := by rw [hn]; rfl
      rw [← hn] at e0 hcode
      obtain ⟨W3, hW3⟩ : ∃ W3, W3 = wr.alloc (.cells #[.int .i32 n] 21) := ⟨_, rfl⟩
      have hb3 : Below wr.heap.size wr W3 := by rw [hW3]; exact (Below.refl _ _).alloc (Nat.le_refl _) _
      have y3 : W3.heap[wr.heap.size]? = some (.cells #[.int .i32 n] 21 (0, 0)) := by rw [hW3]; exact heap_alloc_new _ _
      have A3 := Lib.hid (hA.below hb3)
      have cP := Lib.hid (mPut A3.out rfl (exM_ok j) (by omega) ((j : Int) + 1) (.slice (some ⟨wr.heap.size, 0, none⟩) 1 1) [n] (Nums.mk (xs := [n]) (by simp) (by simp) (by simp) (fun i hi => ⟨wr.heap.size, 0, rfl, by
        have hi1 : i < 1 := hi
        obtain rfl : i = 0 := by omega
        exact cellsB y3 0⟩)) (fun _ b hb => by
          simp only [Value.ownBlock, Option.some.injEq] at hb
          rw [← hb]; exact ⟨_, _, y3⟩))
      rw [hcode] at cP
      have M3 := Lib.hid (hM.andBelow hb3)
      have Y3 := Lib.hid ((hb3.block t (lt_block hy)).trans hy)
      have HW3 := Lib.hid hW3
      have NX := Lib.hid hnx
      have hwu : IntKind.u64.wrap ((j : Int) + 1) = (j : Int) + 1 := by simp [IntKind.wrap, IntKind.signed, IntKind.bits] <;> omega
      clear hA hM hy hcode hlen hn hnx hW3 hb3 y3
      go_wp2_with fail
      rw [← HW3.out]
      (with_reducible refine cP.out.mono ?_)
      rintro e w4 ⟨rfl, ⟨Q4, VL4, hA4, -⟩, hm4⟩
      have A4 := Lib.hid hA4
      have M4 := Lib.hid (MTurn.trans M3.out hm4)
      have Y4 := Lib.hid (MTurn.box hm4 Y3.out (by decide))
      clear hA4 hm4
      go_wp2_with fail
      go_roundg (3 - (j + 1))
      case measure => omega
      case rel => exact ⟨j + 1, Q4, VL4, rfl, by omega, by go_num, by rw [NX.out]; exact A4.out, M4.out, Y4.out⟩
    · obtain rfl : j = 3 := by omega
      obtain ⟨W3, hW3⟩ : ∃ W3, W3 = wr.alloc (.cells #[.int .i32 8] 21) := ⟨_, rfl⟩
      have hb3 : Below wr.heap.size wr W3 := by rw [hW3]; exact (Below.refl _ _).alloc (Nat.le_refl _) _
      have y3 : W3.heap[wr.heap.size]? = some (.cells #[.int .i32 8] 21 (0, 0)) := by rw [hW3]; exact heap_alloc_new _ _
      have hlen := ex_len 3 (by omega)
      have cF := Lib.hid (mFind (hA.below hb3) rfl (exM_ok 3) (by omega) (.slice (some ⟨wr.heap.size, 0, none⟩) 1 1) [8] (Nums.mk (xs := [8]) (by simp) (by simp) (by simp) (fun i hi => ⟨wr.heap.size, 0, rfl, by
        have hi1 : i < 1 := hi
        obtain rfl : i = 0 := by omega
        exact cellsB y3 0⟩)) 1)
      have M3 := Lib.hid (hM.andBelow hb3)
      have HW3 := Lib.hid hW3
      clear hA hM hy hW3 hb3 y3 hlen
      go_wp2_with fail
      rw [← HW3.out]
      (with_reducible refine cF.out.mono ?_)
      rintro e w4 ⟨u, rs, rfl, ho, hh, hb4⟩
      rw [ex_find.2]
      rw [ex_find.1] at hh
      have hl1 : rs.length = 1 := hh.len
      obtain ⟨g, cg, rfl, -, -⟩ := ho.form (by omega)
      have h0 := flat3_get rs 0 (by omega)
      have c0 := own_cell ho rfl h0.1
      have c1 := own_cell ho rfl h0.2.1
      obtain ⟨⟨q1, q2⟩, -⟩ := hh.own 0 (by omega) (by simp)
      rw [q1] at c0
      rw [q2] at c1
      have e0 : w4.cell? ⟨g, 0, none⟩ = some (.int .u64 3) := c0
      have e1 : w4.cell? ⟨g, 1, none⟩ = some (.int .u64 1) := c1
      rw [hl1]
      have FIN := Lib.hid (show Below w.heap.size w w4 from by
        have h1 := M3.out.below (B := w.heap.size) B1.out.size (fun k hk => hk.1)
        have h2 := B1.out.trans h1
        exact h2.trans (hb4.mono h2.size))
      obtain ⟨nn, hnn⟩ : ∃ n, n = (findM 1 (exM 3) [8] 1).2.1 := ⟨_, rfl⟩
      rw [← hnn]
      clear ho hh hb4 h0 c0 c1 q1 q2 hl1 hnn
      go_wp2_with fail
      go_ret
      exact ⟨rfl, FIN.out⟩

end Go.Proofs.YtpjbkaibgajpcaaGreat
