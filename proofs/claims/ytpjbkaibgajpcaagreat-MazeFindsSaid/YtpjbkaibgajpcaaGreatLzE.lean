/- maze's laws: MazeFinds. -/
import Derived.Test.YtpjbkaibgajpcaaGreatJ43
import Derived.Test.YtpjbkaibgajpcaaGreatJ09
import Derived.Test.YtpjbkaibgajpcaaGreatMzI
namespace Go.Proofs.YtpjbkaibgajpcaaGreat
open Go.RowKit Go.ChangeMaps
set_option maxRecDepth 20000

theorem distZ_commM : ∀ xs ys : List Int, distZ xs ys = distZ ys xs
  | [], [] => rfl
  | [], _ :: _ => rfl
  | _ :: _, [] => rfl
  | x :: xs, y :: ys => by
    simp only [distZ]
    rw [distZ_commM xs ys, ← Int.neg_mul_neg (x - y) (x - y)]
    congr 1
    congr 1 <;> omega

theorem distR_commM (xs ys : List Int) : distR xs ys = distR ys xs := by
  unfold distR
  rw [distZ_commM xs ys]
  by_cases h : rightB xs = true ∧ rightB ys = true ∧ xs.length = ys.length
  · rw [if_pos h, if_pos ⟨h.2.1, h.1, h.2.2.symm⟩]
  · rw [if_neg h, if_neg fun h2 => h ⟨h2.2.1, h2.1, h2.2.2.symm⟩]

structure FoundM (s : Mz) (ys : List Int) (k : Nat) (R : List Hz) (n : Nat) : Prop where
  len : R.length ≤ k
  count : n ≤ s.N.length
  some_ : 0 < s.N.length → 0 < R.length
  sorted : Sorted R
  each : ∀ y ∈ R, y.vec = vecOf s.L y.id ∧ (distR y.vec ys).1 = y.dist

theorem found_of {s : Mz} (ok : OkM 2 s) {ys : List Int} {k : Nat} (hk : 1 ≤ k ∧ k ≤ 256) (hr : rightZ 2 ys = true) : FoundM s ys k (findM 2 s ys k).1 (findM 2 s ys k).2.1 ∧ (findM 2 s ys k).2.2 = 0 := by
  unfold findM
  rw [if_neg (by omega), if_neg (by rw [hr]; simp)]
  by_cases hL : s.L = []
  · rw [if_pos hL]
    exact ⟨⟨Nat.zero_le _, Nat.zero_le _, fun h => by rw [ok_len ok, hL] at h; simp at h, List.Pairwise.nil, fun y hy => by simp at hy⟩, rfl⟩
  · rw [if_neg hL]
    rw [show ((k : Nat) : Int).toNat = k from Int.toNat_natCast k]
    obtain ⟨st, V, h⟩ := endR (L := spaceZ s.L ys) s.E hk.1 [entryZ s.L]
    obtain ⟨R, hR⟩ : ∃ R, R = (resW (spaceZ s.L ys) s.E k [entryZ s.L]).1 := ⟨_, rfl⟩
    rw [← hR] at h ⊢
    refine ⟨⟨?_, ?_, fun _ => ?_, ?_, fun y hy => ?_⟩, rfl⟩
    · rw [List.length_map, ← h.list]; exact h.good.best.len
    · rw [← h.count]
      have h1 := nodup_len h.seen.once fun k hk => h.good.sub k (h.seen.sub k hk)
      rw [space_ids, List.length_map, ← ok_len ok] at h1
      exact h1
    · rw [List.length_map]
      have hpos : 0 < s.L.length := List.length_pos_iff.2 hL
      have he : entryZ s.L ∈ s.L.map fun y : Hz => y.id := by rw [entry_atR hpos]; exact List.mem_map_of_mem (f := fun y : Hz => y.id) (List.getElem_mem hpos)
      rw [← space_ids s.L ys] at he
      obtain ⟨y, hy, hye⟩ := List.mem_map.1 he
      have ho : ((spaceZ s.L ys).map fun y : Hz => y.id).Nodup := by rw [space_ids]; exact ok.once
      have hf := farL_of ho hy
      rw [hye] at hf
      obtain ⟨x, hx, -⟩ := h.seen.first _ (h.begun _ (by simp) (by rw [hf]; rfl)) _ hf
      rw [h.list] at hx
      exact List.length_pos_of_mem (List.mem_of_head? hx)
    · have := h.good.best.sorted
      rw [h.list] at this
      exact List.pairwise_map.2 (this.imp fun {a b} hab => hab)
    · obtain ⟨u, hu, rfl⟩ := List.mem_map.1 hy
      refine ⟨rfl, ?_⟩
      rw [← h.list] at hu
      have h1 := h.seen.farl u hu
      obtain ⟨q, hq, hqi, hqd⟩ := farL_mem h1
      unfold spaceZ at hq
      obtain ⟨q0, hq0, rfl⟩ := List.mem_map.1 hq
      simp only [hitK] at hqi hqd
      show (distR (vecOf s.L u.id) ys).1 = u.dist
      rw [← hqi, vec_of ok.once hq0, distR_commM, hqd]


def C3 (t : Nat) (yi yd : Int) (u : Value) (w' : World) : Prop := w'.cell? ⟨t, 0, none⟩ = some (.int .u64 yi) ∧ w'.cell? ⟨t, 1, none⟩ = some (.int .u64 yd) ∧ w'.cell? ⟨t, 2, none⟩ = some u
def C6 (t g o : Nat) (yi yd : Int) (u : Value) (zi zd : Int) (u2 : Value) (w' : World) : Prop := w'.cell? ⟨t, 0, none⟩ = some (.int .u64 yi) ∧ w'.cell? ⟨t, 1, none⟩ = some (.int .u64 yd) ∧ w'.cell? ⟨t, 2, none⟩ = some u ∧ w'.cell? ⟨g, o, none⟩ = some (.int .u64 zi) ∧ w'.cell? ⟨g, o + 1, none⟩ = some (.int .u64 zd) ∧ w'.cell? ⟨g, o + 1 + 1, none⟩ = some u2

theorem keep3 {t : Nat} {yi yd : Int} {u : Value} {w w' : World} (hb : Below w.heap.size w w') (h : C3 t yi yd u w) : C3 t yi yd u w' := ⟨below_cells hb h.1, below_cells hb h.2.1, below_cells hb h.2.2⟩
theorem keep6 {t g o : Nat} {yi yd : Int} {u : Value} {zi zd : Int} {u2 : Value} {w w' : World} (hb : Below w.heap.size w w') (h : C6 t g o yi yd u zi zd u2 w) : C6 t g o yi yd u zi zd u2 w' := ⟨below_cells hb h.1, below_cells hb h.2.1, below_cells hb h.2.2.1, below_cells hb h.2.2.2.1, below_cells hb h.2.2.2.2.1, below_cells hb h.2.2.2.2.2⟩

set_option maxRecDepth 100000 in
set_option maxHeartbeats 16000000 in
theorem mazeFinds (w : World) (l : List (Int × List Int)) (nv : Value) (hR : Recs w nv l) (v : Value) (xs : List Int) (hv : Nums w .i32 v xs) (ef : Int) (hef : 0 ≤ ef ∧ ef ≤ 255) :
    Law 3 #[nv, v, .int .u8 ef] w := by
  have cA := Lib.hid (awake11 w)
  have LR := Lib.hid hR
  have V := Lib.hid hv
  obtain ⟨vq, vc, rfl, -, -, -, -⟩ := hv.slice
  clear hR hv
  go_enter Tryz.func3, Tryz.ntmps3
  go_wp2_with fail
  (with_reducible refine cA.out.mono ?_)
  rintro e w1 ⟨rfl, hb1⟩
  have cL := lzLay w1 2 l nv (LR.out.below hb1) 50 (by omega)
  rw [show ((50 : Nat) : Int) = 50 from rfl] at cL
  have cL := Lib.hid cL
  have B1 := Lib.hid hb1
  clear hb1
  go_wp2_with fail
  (with_reducible refine cL.out.mono ?_)
  rintro e w2 (⟨hno, -⟩ | ⟨-, z, p, m, mv, Q, VL, B', x, c, vn, ve, xlv, rs, rfl, hA, hX, hb2⟩)
  · exact absurd ⟨by decide, by decide⟩ hno
  have B2 := Lib.hid (B1.out.trans (hb2.mono B1.out.size))
  have OK := Lib.hid (layM_ok 2 l 50)
  have hlen := layM_len 2 l 50
  obtain ⟨s, hs⟩ : ∃ s, s = layM 2 l 50 := ⟨_, rfl⟩
  rw [← hs] at hA hX OK hlen
  have A2 := Lib.hid hA
  have X2 := Lib.hid hX
  have LM := Lib.hid hs
  clear hb2 hs hA hX
  have cC := cutVec xs (.slice vq xs.length vc) 2 w2 (V.out.below B2.out) (by decide) (.inr (by decide))
  rw [show Int.toNat 2 = 2 from rfl] at cC
  have cC := Lib.hid cC
  go_wp2_with fail
  (with_reducible refine cC.out.mono ?_)
  rintro e w3 ⟨v3, rfl, ho3, hb3⟩
  obtain ⟨pq3, hq3⟩ : ∃ q, q = xs.take 2 := ⟨_, rfl⟩
  have hq3l : pq3.length ≤ 2 := by rw [hq3]; exact List.length_take_le _ _
  rw [← hq3] at ho3
  obtain ⟨vq3, vn3, vc3, rfl⟩ := own_form ho3
  obtain rfl : vn3 = pq3.length := own_len ho3
  obtain ⟨W3, hW3⟩ : ∃ W3, W3 = w3.alloc (.cells #[.int .i32 0, .int .i32 0] 21) := ⟨_, rfl⟩
  have hb3a : Below w3.heap.size w3 W3 := by rw [hW3]; exact (Below.refl _ _).alloc (Nat.le_refl _) _
  have y3 : W3.heap[w3.heap.size]? = some (.cells #[.int .i32 0, .int .i32 0] 21 (0, 0)) := by rw [hW3]; exact heap_alloc_new _ _
  have hsrc : SrcAt W3 (some ⟨w3.heap.size, 0, none⟩) 2 2 1 [.int .i32 0, .int .i32 0] := by
    have h1 : Nums W3 .i32 (.slice (some ⟨w3.heap.size, 0, none⟩) 2 2) [0, 0] := Nums.mk (xs := [0, 0]) (by simp) (by simp) (by simp) (fun i hi => ⟨w3.heap.size, 0, rfl, by
      have hi2 : i < 2 := hi
      match i, hi2 with
      | 0, _ => exact cellsB y3 0
      | 1, _ => exact cellsB y3 1⟩)
    exact SrcAt.of_nums (xs := [0, 0]) h1
  obtain ⟨aq, an, ac, w4, hrun4, hown4, hg4, -⟩ := run_app rowI32M (own_below ho3 hb3a) (Nat.le_trans hb3.size hb3a.size) hsrc (by simp [Value.oneCell']) (by simp [maxLen]; omega) (by omega)
  obtain rfl : pq3.length + 2 = an := (own_len hown4).symm
  obtain ⟨ga, ca, hva, -, -⟩ := hown4.form (by omega)
  obtain ⟨rfl, -, rfl⟩ := Value.slice.inj hva
  have hb4 : Below w2.heap.size w2 w4 := (hb3.trans (hb3a.mono hb3.size)).grown hg4 (Nat.le_trans hb3.size hb3a.size) (fun b hb => (ho3.lt b hb).1)
  obtain ⟨ys, hys⟩ : ∃ ys, ys = (pq3 ++ [0, 0]).take 2 := ⟨_, rfl⟩
  have hyl : ys.length = 2 := by rw [hys]; simp
  have ho4 : w4.ownsRow w2.heap.size 21 1 (.slice (some ⟨ga, 0, none⟩) 2 ac) 2 (ys.map (Value.int .i32)) := by
    have h1 := own_prefix hown4 (k := 2) (by omega)
    rw [hys, List.map_take, List.map_append]
    simpa using h1
  have hac : (2 : Int) ≤ ac := by
    obtain ⟨-, ⟨h2, -⟩ | ⟨g', cap', cur, hv, -, -, hn, -⟩⟩ := hown4
    · cases h2
    · obtain ⟨-, -, rfl⟩ := Value.slice.inj hv
      omega
  have YS := Lib.hid (And.intro hyl (hys.trans (by rw [hq3])))
  have O4 := Lib.hid ho4
  have A4 := Lib.hid (A2.out.below hb4)
  have X4 := Lib.hid (X2.out.below hb4)
  have B4 := Lib.hid (B2.out.trans (hb4.mono B2.out.size))
  have B24 := Lib.hid hb4
  rw [hW3] at hrun4
  clear ho3 hb3 hq3 hW3 hb3a y3 hsrc hown4 hg4 hva hb4 hys ho4 hyl
  go_upto_region 7 with (with_reducible refine wpList_append_eq hrun4 rfl _ _ rfl rfl rfl ?_)
  obtain ⟨kk, hkk⟩ : ∃ kk : Nat, (kk : Int) = 1 + ef % 60 := ⟨1 + (ef % 60).toNat, by omega⟩
  have cF := Lib.hid (mFind A4.out rfl OK.out (by omega) (.slice (some ⟨ga, 0, none⟩) 2 ac) ys (Nums.of_own O4.out) kk)
  go_wp2_with fail
  rw [← hkk]
  have hkk2 : 1 ≤ kk ∧ kk ≤ 60 := by omega
  clear hkk hef hac
  (with_reducible refine cF.out.mono ?_)
  rintro e w5 ⟨u5, rs5, rfl, ho5, hh5, hb5⟩
  have N5 := Lib.hid ((Nums.of_own O4.out).below hb5)
  have cR := Lib.hid (refRight ys (.slice (some ⟨ga, 0, none⟩) 2 ac) w5 N5.out)
  have A5 := Lib.hid (A4.out.below hb5)
  have X5 := Lib.hid (X4.out.below hb5)
  have BW5 := Lib.hid (B4.out.trans (hb5.mono B4.out.size))
  have hlr5 : rs5.length = (findM 2 s ys kk).1.length := hh5.len
  obtain ⟨uq, un5, uc5, rfl⟩ := own_form ho5
  obtain rfl : un5 = rs5.length := own_len ho5
  cases hrb : rightB ys with
  | false =>
    have hrz : rightZ 2 ys = false := by unfold rightZ; rw [hrb]; rfl
    have hfz : findM 2 s ys kk = ([], 0, 4) := by unfold findM; rw [if_neg (by omega), if_pos hrz]
    rw [hrb] at cR
    rw [hfz] at hlr5 ⊢
    have hl0 : rs5.length = 0 := hlr5
    rw [hl0]
    clear ho5 hh5 hb5 hlr5 hrz hfz hrb hl0
    go_wp2_with fail
    (with_reducible refine cR.out.mono ?_)
    rintro e w6 ⟨rfl, rfl⟩
    go_wp2_with fail
    go_ret
    exact ⟨rfl, BW5.out⟩
  | true =>
    have hrz : rightZ 2 ys = true := by unfold rightZ; rw [hrb, YS.out.1]; rfl
    obtain ⟨hF, hc⟩ := found_of OK.out (ys := ys) (k := kk) (by omega) hrz
    rw [hrb] at cR
    rw [hc]
    obtain ⟨R, hR⟩ : ∃ R, R = (findM 2 s ys kk).1 := ⟨_, rfl⟩
    obtain ⟨nn, hnn⟩ : ∃ R, R = (findM 2 s ys kk).2.1 := ⟨_, rfl⟩
    rw [← hR, ← hnn] at hF
    rw [← hR] at hh5 hlr5
    rw [← hnn]
    have FM := Lib.hid hF
    rw [hlr5] at ho5 ⊢
    have O5 := Lib.hid (And.intro ho5 hh5)
    have cLe := Lib.hid A5.out.length
    obtain ⟨n0, hn0⟩ : ∃ n, n = s.N.length := ⟨_, rfl⟩
    rw [← hn0] at cLe
    have d1 : decide (kk < R.length) = false := by rw [decide_eq_false_iff_not]; have := hF.len; omega
    have d2 : decide (n0 < nn) = false := by rw [decide_eq_false_iff_not]; have := hF.count; omega
    have d1i : ¬ (kk : Int) < R.length := by have := hF.len; omega
    have d2i : ¬ (n0 : Int) < nn := by have := hF.count; omega
    have d1n : ¬ kk < R.length := by have := hF.len; omega
    have d2n : ¬ n0 < nn := by have := hF.count; omega
    have hso := hF.some_
    have hR60 : R.length ≤ 60 := by have := hF.len; omega
    rw [← hn0] at hso
    clear ho5 hh5 hb5 hrz hc hrb hF hR hnn hn0
    by_cases hz : 0 < n0
    · have hz2 : ¬ R.length = 0 := by have := hso hz; omega
      have hz3 : decide (0 < n0) = true := decide_eq_true hz
      have hz4 : ((R.length : Int) == 0) = false := by simp only [beq_eq_false_iff_ne, ne_eq]; omega
      have hz5 : (0 : Int) < n0 := by omega
      go_wp2_with fail
      (with_reducible refine cR.out.mono ?_)
      rintro e w6 ⟨rfl, rfl⟩
      go_wp2_with fail
      (with_reducible refine cLe.out.mono ?_)
      rintro e w5 ⟨rfl, rfl⟩
      go_wp2_with fail
      (with_reducible refine cLe.out.mono ?_)
      rintro e w5 ⟨rfl, rfl⟩
      go_wp2_with fail
      go_loopg [81] R.length (fun q' i wr => ∃ j : Nat, q' = R.length - j ∧ j ≤ R.length ∧ i = .int .i64 j ∧ Below w5.heap.size w5 wr)
      case atStart => exact ⟨0, rfl, by omega, rfl, Below.refl _ _⟩
      case round =>
        obtain ⟨j, rfl, hj, rfl, hbr⟩ := hrel
        by_cases hlt : j < R.length
        · have ho := own_below O5.out.1 hbr
          obtain ⟨g, cg, hv, -, -⟩ := ho.form (by omega)
          obtain ⟨rfl, -, rfl⟩ := Value.slice.inj hv
          have hf := flat3_get rs5 j (by omega)
          have e0 := own_cell ho rfl hf.1
          have e1 := own_cell ho rfl hf.2.1
          have e2 := own_cell ho rfl hf.2.2
          obtain ⟨⟨q0, q1⟩, qv⟩ := O5.out.2.own j (by omega) hlt
          obtain ⟨up, un, uc, hu⟩ := own_form qv
          rw [hu] at e2 qv
          rw [q0] at e0
          rw [q1] at e1
          obtain ⟨hev, hed⟩ := FM.out.each R[j] (List.getElem_mem hlt)
          have PREV := Lib.hid (fun (t : Nat) (ht : t < R.length) (e : t < j) => List.pairwise_iff_getElem.1 FM.out.sorted t j ht hlt e)
          obtain ⟨y, hy⟩ : ∃ y, y = R[j] := ⟨_, rfl⟩
          rw [← hy] at e0 e1 qv hev hed PREV
          obtain ⟨yi, hyi⟩ : ∃ z, z = y.id := ⟨_, rfl⟩
          obtain ⟨yd, hyd⟩ : ∃ z, z = y.dist := ⟨_, rfl⟩
          rw [← hyi] at e0 hev
          rw [← hyd] at e1 hed
          have YY := Lib.hid (And.intro hyi hyd)
          have EV := Lib.hid hev
          obtain ⟨W6, hW6⟩ : ∃ W6, W6 = wr.alloc (.cells #[.int .u64 yi, .int .u64 yd, .slice up un uc] 38) := ⟨_, rfl⟩
          have hb6 : Below wr.heap.size wr W6 := by rw [hW6]; exact (Below.refl _ _).alloc (Nat.le_refl _) _
          have y6 : W6.heap[wr.heap.size]? = some (.cells #[.int .u64 yi, .int .u64 yd, .slice up un uc] 38 (0, 0)) := by rw [hW6]; exact heap_alloc_new _ _
          have qv6 := own_below qv (hbr.trans (hb6.mono hbr.size))
          have cD := refDist y.vec ys (.slice up un uc) (.slice (some ⟨ga, 0, none⟩) 2 ac) W6 (Nums.of_own qv6) ((N5.out.below hbr).below hb6)
          rw [hed] at cD
          have cD := Lib.hid cD
          obtain ⟨d2, hd2⟩ : ∃ d, d = (distR y.vec ys).2 := ⟨_, rfl⟩
          rw [← hd2] at cD
          have BR := Lib.hid hbr
          have B6 := Lib.hid (hbr.trans (hb6.mono hbr.size))
          have HW6 := Lib.hid hW6
          have Y6 := Lib.hid y6
          have QV := Lib.hid qv
          obtain ⟨t, ht⟩ : ∃ t, t = wr.heap.size := ⟨_, rfl⟩
          rw [← ht] at Y6
          clear hf q0 q1 qv hu hev hed hy hyi hyd hW6 hb6 y6 qv6 hd2 hbr ho hv
          go_wp2_with fail
          rw [← HW6.out]
          (with_reducible refine cD.out.mono ?_)
          rintro e w7 ⟨rfl, hb7⟩
          obtain ⟨W7, hW7⟩ : ∃ W7, W7 = w7.drew := ⟨_, rfl⟩
          have b67 : Below W6.heap.size W6 W7 := by rw [hW7]; exact hb7.drew
          have B7 := Lib.hid (B6.out.trans (b67.mono B6.out.size))
          have Y7 := Lib.hid ((b67.block t (lt_block Y6.out)).trans Y6.out)
          have NV7 := Lib.hid (Nums.of_own (own_below QV.out B7.out))
          have cV := Lib.hid (rVec (X5.out.below B7.out) yi)
          have HW := Lib.hid hW7
          rw [← ht]
          clear hb7 b67 hW7 ht
          match j, hj, hlt, PREV with
          | 0, _, _, _ =>
            have KB := @keep3 t yi yd (.slice up un uc)
            have I7 := Lib.hid (show C3 t yi yd (.slice up un uc) W7 from ⟨cellsB Y7.out 0, cellsB Y7.out 1, cellsB Y7.out 2⟩)
            unfold C3 at KB I7
            go_upto_region 17 with fail
            refine region_goH (fun w' => w'.cell? ⟨t, 0, none⟩ = some (.int .u64 yi) ∧ w'.cell? ⟨t, 1, none⟩ = some (.int .u64 yd) ∧ w'.cell? ⟨t, 2, none⟩ = some (.slice up un uc)) 28 (by kernel_rfl) rfl ?hS0 (fun O hO hH => ?_)
            case hS0 =>
              rw [← HW.out]; exact I7.out
            rw [← HW.out] at hH ⊢
            refine kYH 0 hO hH ?_
            repeat simp only [Act.put, uA1, uB1, uC1]
            refine kYH 1 hO hH ?_
            repeat simp only [Act.put, uA1, uB1, uC1]
            refine kYH 2 hO hH ?_
            repeat simp only [Act.put, uA1, uB1, uC1]
            refine kYH 3 hO hH ?_
            repeat simp only [Act.put, uA1, uB1, uC1]
            refine kYH 4 hO hH ?_
            repeat simp only [Act.put, uA1, uB1, uC1]
            refine spkH 5 hO rfl (by decide +kernel) (by rfl) (fun K' hK => ?_)
            go_simp
            with_reducible refine cV.out.mono ?_
            rintro e w8 ⟨v8, rfl, hu8, -, hb8⟩
            obtain ⟨p8, c8, rfl, -, -, -, -⟩ := hu8.slice
            have cS8 := sameVecQ _ _ _ _ w8 (NV7.out.below hb8) hu8
            rw [EV.out, decide_eq_true (Eq.refl (vecOf s.L yi))] at cS8
            have cS8 := Lib.hid cS8
            have B8 := Lib.hid (B7.out.trans (hb8.mono B7.out.size))
            try dsimp only
            refine hK.out _ _ ?hS (fun hH' => ?_)
            case hS =>
              exact KB hb8 hH
            clear hK K' hH; have hH := hH'; clear hH'; repeat simp only [Act.put, uA1, uB1, uC1]
            refine spkH 6 hO rfl (by decide +kernel) (by rfl) (fun K' hK => ?_)
            go_simp
            with_reducible refine cS8.out.mono ?_
            rintro e w9 ⟨rfl, hd9⟩
            have B9 := Lib.hid (B8.out.trans (hd9.below.mono B8.out.size))
            try dsimp only
            refine hK.out _ _ ?hS (fun hH' => ?_)
            case hS =>
              exact KB hd9.below hH
            clear hK K' hH; have hH := hH'; clear hH'; repeat simp only [Act.put, uA1, uB1, uC1]
            refine kYH 7 hO hH ?_
            repeat simp only [Act.put, uA1, uB1, uC1]
            refine kYH 8 hO hH ?_
            repeat simp only [Act.put, uA1, uB1, uC1]
            refine kYH 9 hO hH ?_
            repeat simp only [Act.put, uA1, uB1, uC1]
            refine kYH 10 hO hH ?_
            repeat simp only [Act.put, uA1, uB1, uC1]
            refine kYH 11 hO hH ?_
            repeat simp only [Act.put, uA1, uB1, uC1]
            refine kYH 12 hO hH ?_
            repeat simp only [Act.put, uA1, uB1, uC1]
            refine kYH 13 hO hH ?_
            repeat simp only [Act.put, uA1, uB1, uC1]
            refine kYH 14 hO hH ?_
            repeat simp only [Act.put, uA1, uB1, uC1]
            refine kYH 15 hO hH ?_
            repeat simp only [Act.put, uA1, uB1, uC1]
            refine kYH 16 hO hH ?_
            repeat simp only [Act.put, uA1, uB1, uC1]
            refine kYH 17 hO hH ?_
            repeat simp only [Act.put, uA1, uB1, uC1]
            refine kNH 18 hO hH ?_
            repeat simp only [Act.put, uA1, uB1, uC1]
            refine kNH 19 hO hH ?_
            repeat simp only [Act.put, uA1, uB1, uC1]
            refine kNH 20 hO hH ?_
            repeat simp only [Act.put, uA1, uB1, uC1]
            refine kNH 21 hO hH ?_
            repeat simp only [Act.put, uA1, uB1, uC1]
            refine kNH 22 hO hH ?_
            repeat simp only [Act.put, uA1, uB1, uC1]
            refine kNH 23 hO hH ?_
            repeat simp only [Act.put, uA1, uB1, uC1]
            refine kNH 24 hO hH ?_
            repeat simp only [Act.put, uA1, uB1, uC1]
            refine kNH 25 hO hH ?_
            repeat simp only [Act.put, uA1, uB1, uC1]
            refine kYH 26 hO hH ?_
            repeat simp only [Act.put, uA1, uB1, uC1]
            refine kYH 27 hO hH ?_
            repeat simp only [Act.put, uA1, uB1, uC1]
            refine doneH hO (by decide +kernel) ?_
            clear hO
            clear hH hb8 hu8 hd9
            go_wp2_with fail
            go_roundg (R.length - 1)
            case measure => omega
            case rel => exact ⟨1, rfl, by omega, by go_num, B9.out⟩
          | t2 + 1, hj, hlt, PREV =>
            have htl : t2 < R.length := by omega
            have ho7 := own_below O5.out.1 B7.out
            have hf2 := flat3_get rs5 t2 (by omega)
            obtain ⟨⟨r0, r1⟩, rv⟩ := O5.out.2.own t2 (by omega) htl
            have d0 := own_cell ho7 rfl hf2.1
            have d1' := own_cell ho7 rfl hf2.2.1
            have d2' := own_cell ho7 rfl hf2.2.2
            obtain ⟨up2, un2, uc2, hu2⟩ := own_form rv
            rw [hu2] at d2'
            rw [r0] at d0
            rw [r1] at d1'
            have NB := PREV.out t2 htl (Nat.lt_succ_self t2)
            obtain ⟨zi, hzi⟩ : ∃ z, z = R[t2].id := ⟨_, rfl⟩
            obtain ⟨zd, hzd⟩ : ∃ z, z = R[t2].dist := ⟨_, rfl⟩
            rw [← hzi] at d0
            rw [← hzd] at d1'
            have NB2 := Lib.hid (show nearB zi zd yi yd = true from by rw [hzi, hzd, YY.out.1, YY.out.2]; exact NB)
            have KB := @keep6 t g (t2 * 3) yi yd (.slice up un uc) zi zd (.slice up2 un2 uc2)
            have I7 := Lib.hid (show C6 t g (t2 * 3) yi yd (.slice up un uc) zi zd (.slice up2 un2 uc2) W7 from ⟨cellsB Y7.out 0, cellsB Y7.out 1, cellsB Y7.out 2, d0, d1', d2'⟩)
            unfold C6 at KB I7
            have hw1 : IntKind.i64.wrap (((t2 + 1 : Nat) : Int) - 1) = (t2 : Int) := by rw [IntWalk.i64_in _ (by omega)]; omega
            have hw2 : IntKind.i64.wrap ((t2 : Int) + 1 - 1) = (t2 : Int) := by rw [IntWalk.i64_in _ (by omega)]; omega
            have hw3 : IntKind.i64.wrap (t2 : Int) = (t2 : Int) := IntWalk.i64_in _ (by omega)
            have hg1 : (0 : Int) < ((t2 + 1 : Nat) : Int) := by omega
            have hg2 : (0 : Int) < (t2 : Int) + 1 := by omega
            have hg3 : (0 : Int) ≤ (t2 : Int) ∧ (t2 : Int) < R.length := by omega
            have htn : ((t2 : Nat) : Int).toNat = t2 := Int.toNat_natCast _
            clear ho7 hf2 r0 r1 rv hu2 NB hzi hzd d0 d1' d2'
            go_upto_region 17 with fail
            refine region_goH (fun w' => w'.cell? ⟨t, 0, none⟩ = some (.int .u64 yi) ∧ w'.cell? ⟨t, 1, none⟩ = some (.int .u64 yd) ∧ w'.cell? ⟨t, 2, none⟩ = some (.slice up un uc) ∧ w'.cell? ⟨g, t2 * 3, none⟩ = some (.int .u64 zi) ∧ w'.cell? ⟨g, t2 * 3 + 1, none⟩ = some (.int .u64 zd) ∧ w'.cell? ⟨g, t2 * 3 + 1 + 1, none⟩ = some (.slice up2 un2 uc2)) 28 (by kernel_rfl) rfl ?hS0 (fun O hO hH => ?_)
            case hS0 =>
              rw [← HW.out]; exact I7.out
            rw [← HW.out] at hH ⊢
            refine kYH 0 hO hH ?_
            repeat simp only [Act.put, uA1, uB1, uC1]
            refine kYH 1 hO hH ?_
            repeat simp only [Act.put, uA1, uB1, uC1]
            refine kYH 2 hO hH ?_
            repeat simp only [Act.put, uA1, uB1, uC1]
            refine kYH 3 hO hH ?_
            repeat simp only [Act.put, uA1, uB1, uC1]
            refine kYH 4 hO hH ?_
            repeat simp only [Act.put, uA1, uB1, uC1]
            refine spkH 5 hO rfl (by decide +kernel) (by rfl) (fun K' hK => ?_)
            go_simp
            with_reducible refine cV.out.mono ?_
            rintro e w8 ⟨v8, rfl, hu8, -, hb8⟩
            obtain ⟨p8, c8, rfl, -, -, -, -⟩ := hu8.slice
            have cS8 := sameVecQ _ _ _ _ w8 (NV7.out.below hb8) hu8
            rw [EV.out, decide_eq_true (Eq.refl (vecOf s.L yi))] at cS8
            have cS8 := Lib.hid cS8
            have B8 := Lib.hid (B7.out.trans (hb8.mono B7.out.size))
            try dsimp only
            refine hK.out _ _ ?hS (fun hH' => ?_)
            case hS =>
              exact KB hb8 hH
            clear hK K' hH; have hH := hH'; clear hH'; repeat simp only [Act.put, uA1, uB1, uC1]
            refine spkH 6 hO rfl (by decide +kernel) (by rfl) (fun K' hK => ?_)
            go_simp
            with_reducible refine cS8.out.mono ?_
            rintro e w9 ⟨rfl, hd9⟩
            have B9 := Lib.hid (B8.out.trans (hd9.below.mono B8.out.size))
            try dsimp only
            refine hK.out _ _ ?hS (fun hH' => ?_)
            case hS =>
              exact KB hd9.below hH
            clear hK K' hH; have hH := hH'; clear hH'; repeat simp only [Act.put, uA1, uB1, uC1]
            refine kYH 7 hO hH ?_
            repeat simp only [Act.put, uA1, uB1, uC1]
            refine kYH 8 hO hH ?_
            repeat simp only [Act.put, uA1, uB1, uC1]
            refine kYH 9 hO hH ?_
            repeat simp only [Act.put, uA1, uB1, uC1]
            refine kYH 10 hO hH ?_
            repeat simp only [Act.put, uA1, uB1, uC1]
            refine kYH 11 hO hH ?_
            repeat simp only [Act.put, uA1, uB1, uC1]
            refine kYH 12 hO hH ?_
            repeat simp only [Act.put, uA1, uB1, uC1]
            refine kYH 13 hO hH ?_
            repeat simp only [Act.put, uA1, uB1, uC1]
            refine kYH 14 hO hH ?_
            repeat simp only [Act.put, uA1, uB1, uC1]
            refine kYH 15 hO hH ?_
            repeat simp only [Act.put, uA1, uB1, uC1]
            refine kYH 16 hO hH ?_
            repeat simp only [Act.put, uA1, uB1, uC1]
            refine kYH 17 hO hH ?_
            repeat simp only [Act.put, uA1, uB1, uC1]
            refine kYH 18 hO hH ?_
            repeat simp only [Act.put, uA1, uB1, uC1]
            refine kYH 19 hO hH ?_
            repeat simp only [Act.put, uA1, uB1, uC1]
            refine kYH 20 hO hH ?_
            repeat simp only [Act.put, uA1, uB1, uC1]
            refine kYH 21 hO hH ?_
            repeat simp only [Act.put, uA1, uB1, uC1]
            refine kYH 22 hO hH ?_
            repeat simp only [Act.put, uA1, uB1, uC1]
            refine kYH 23 hO hH ?_
            repeat simp only [Act.put, uA1, uB1, uC1]
            refine spkH 24 hO rfl (by decide +kernel) (by rfl) (fun K' hK => ?_)
            go_simp
            refine (refNearer zi zd yi yd _ _ _).mono ?_
            rintro e w10 ⟨rfl, hb10⟩
            rw [NB2.out]
            try dsimp only
            refine hK.out _ _ ?hS (fun hH' => ?_)
            case hS =>
              exact KB hb10 hH
            clear hK K' hH; have hH := hH'; clear hH'; repeat simp only [Act.put, uA1, uB1, uC1]
            refine kYH 25 hO hH ?_
            repeat simp only [Act.put, uA1, uB1, uC1]
            refine kYH 26 hO hH ?_
            repeat simp only [Act.put, uA1, uB1, uC1]
            refine kYH 27 hO hH ?_
            repeat simp only [Act.put, uA1, uB1, uC1]
            refine doneH hO (by decide +kernel) ?_
            clear hO
            have B10 := Lib.hid (B9.out.trans (hb10.mono B9.out.size))
            clear hH hb8 hu8 hd9 hb10
            go_wp2_with fail
            go_roundg (R.length - (t2 + 1 + 1))
            case measure => omega
            case rel => exact ⟨t2 + 1 + 1, rfl, by omega, by go_num, B10.out⟩
        · have FIN := Lib.hid (show Below w.heap.size w wr from BW5.out.trans (hbr.mono BW5.out.size))
          clear hbr
          go_wp2_with fail
          go_ret
          exact ⟨rfl, FIN.out⟩
    · have hz3 : decide (0 < n0) = false := decide_eq_false hz
      have hz5 : ¬ (0 : Int) < n0 := by omega
      have hz6 : n0 = 0 := by omega
      subst hz6
      clear hso
      go_wp2_with fail
      (with_reducible refine cR.out.mono ?_)
      rintro e w6 ⟨rfl, rfl⟩
      go_wp2_with fail
      (with_reducible refine cLe.out.mono ?_)
      rintro e w5 ⟨rfl, rfl⟩
      go_wp2_with fail
      (with_reducible refine cLe.out.mono ?_)
      rintro e w5 ⟨rfl, rfl⟩
      go_wp2_with fail
      go_loopg [81] R.length (fun q' i wr => ∃ j : Nat, q' = R.length - j ∧ j ≤ R.length ∧ i = .int .i64 j ∧ Below w5.heap.size w5 wr)
      case atStart => exact ⟨0, rfl, by omega, rfl, Below.refl _ _⟩
      case round =>
        obtain ⟨j, rfl, hj, rfl, hbr⟩ := hrel
        by_cases hlt : j < R.length
        · have ho := own_below O5.out.1 hbr
          obtain ⟨g, cg, hv, -, -⟩ := ho.form (by omega)
          obtain ⟨rfl, -, rfl⟩ := Value.slice.inj hv
          have hf := flat3_get rs5 j (by omega)
          have e0 := own_cell ho rfl hf.1
          have e1 := own_cell ho rfl hf.2.1
          have e2 := own_cell ho rfl hf.2.2
          obtain ⟨⟨q0, q1⟩, qv⟩ := O5.out.2.own j (by omega) hlt
          obtain ⟨up, un, uc, hu⟩ := own_form qv
          rw [hu] at e2 qv
          rw [q0] at e0
          rw [q1] at e1
          obtain ⟨hev, hed⟩ := FM.out.each R[j] (List.getElem_mem hlt)
          have PREV := Lib.hid (fun (t : Nat) (ht : t < R.length) (e : t < j) => List.pairwise_iff_getElem.1 FM.out.sorted t j ht hlt e)
          obtain ⟨y, hy⟩ : ∃ y, y = R[j] := ⟨_, rfl⟩
          rw [← hy] at e0 e1 qv hev hed PREV
          obtain ⟨yi, hyi⟩ : ∃ z, z = y.id := ⟨_, rfl⟩
          obtain ⟨yd, hyd⟩ : ∃ z, z = y.dist := ⟨_, rfl⟩
          rw [← hyi] at e0 hev
          rw [← hyd] at e1 hed
          have YY := Lib.hid (And.intro hyi hyd)
          have EV := Lib.hid hev
          obtain ⟨W6, hW6⟩ : ∃ W6, W6 = wr.alloc (.cells #[.int .u64 yi, .int .u64 yd, .slice up un uc] 38) := ⟨_, rfl⟩
          have hb6 : Below wr.heap.size wr W6 := by rw [hW6]; exact (Below.refl _ _).alloc (Nat.le_refl _) _
          have y6 : W6.heap[wr.heap.size]? = some (.cells #[.int .u64 yi, .int .u64 yd, .slice up un uc] 38 (0, 0)) := by rw [hW6]; exact heap_alloc_new _ _
          have qv6 := own_below qv (hbr.trans (hb6.mono hbr.size))
          have cD := refDist y.vec ys (.slice up un uc) (.slice (some ⟨ga, 0, none⟩) 2 ac) W6 (Nums.of_own qv6) ((N5.out.below hbr).below hb6)
          rw [hed] at cD
          have cD := Lib.hid cD
          obtain ⟨d2, hd2⟩ : ∃ d, d = (distR y.vec ys).2 := ⟨_, rfl⟩
          rw [← hd2] at cD
          have BR := Lib.hid hbr
          have B6 := Lib.hid (hbr.trans (hb6.mono hbr.size))
          have HW6 := Lib.hid hW6
          have Y6 := Lib.hid y6
          have QV := Lib.hid qv
          obtain ⟨t, ht⟩ : ∃ t, t = wr.heap.size := ⟨_, rfl⟩
          rw [← ht] at Y6
          clear hf q0 q1 qv hu hev hed hy hyi hyd hW6 hb6 y6 qv6 hd2 hbr ho hv
          go_wp2_with fail
          rw [← HW6.out]
          (with_reducible refine cD.out.mono ?_)
          rintro e w7 ⟨rfl, hb7⟩
          obtain ⟨W7, hW7⟩ : ∃ W7, W7 = w7.drew := ⟨_, rfl⟩
          have b67 : Below W6.heap.size W6 W7 := by rw [hW7]; exact hb7.drew
          have B7 := Lib.hid (B6.out.trans (b67.mono B6.out.size))
          have Y7 := Lib.hid ((b67.block t (lt_block Y6.out)).trans Y6.out)
          have NV7 := Lib.hid (Nums.of_own (own_below QV.out B7.out))
          have cV := Lib.hid (rVec (X5.out.below B7.out) yi)
          have HW := Lib.hid hW7
          rw [← ht]
          clear hb7 b67 hW7 ht
          match j, hj, hlt, PREV with
          | 0, _, _, _ =>
            have KB := @keep3 t yi yd (.slice up un uc)
            have I7 := Lib.hid (show C3 t yi yd (.slice up un uc) W7 from ⟨cellsB Y7.out 0, cellsB Y7.out 1, cellsB Y7.out 2⟩)
            unfold C3 at KB I7
            go_upto_region 17 with fail
            refine region_goH (fun w' => w'.cell? ⟨t, 0, none⟩ = some (.int .u64 yi) ∧ w'.cell? ⟨t, 1, none⟩ = some (.int .u64 yd) ∧ w'.cell? ⟨t, 2, none⟩ = some (.slice up un uc)) 28 (by kernel_rfl) rfl ?hS0 (fun O hO hH => ?_)
            case hS0 =>
              rw [← HW.out]; exact I7.out
            rw [← HW.out] at hH ⊢
            refine kYH 0 hO hH ?_
            repeat simp only [Act.put, uA1, uB1, uC1]
            refine kYH 1 hO hH ?_
            repeat simp only [Act.put, uA1, uB1, uC1]
            refine kYH 2 hO hH ?_
            repeat simp only [Act.put, uA1, uB1, uC1]
            refine kYH 3 hO hH ?_
            repeat simp only [Act.put, uA1, uB1, uC1]
            refine kYH 4 hO hH ?_
            repeat simp only [Act.put, uA1, uB1, uC1]
            refine spkH 5 hO rfl (by decide +kernel) (by rfl) (fun K' hK => ?_)
            go_simp
            with_reducible refine cV.out.mono ?_
            rintro e w8 ⟨v8, rfl, hu8, -, hb8⟩
            obtain ⟨p8, c8, rfl, -, -, -, -⟩ := hu8.slice
            have cS8 := sameVecQ _ _ _ _ w8 (NV7.out.below hb8) hu8
            rw [EV.out, decide_eq_true (Eq.refl (vecOf s.L yi))] at cS8
            have cS8 := Lib.hid cS8
            have B8 := Lib.hid (B7.out.trans (hb8.mono B7.out.size))
            try dsimp only
            refine hK.out _ _ ?hS (fun hH' => ?_)
            case hS =>
              exact KB hb8 hH
            clear hK K' hH; have hH := hH'; clear hH'; repeat simp only [Act.put, uA1, uB1, uC1]
            refine spkH 6 hO rfl (by decide +kernel) (by rfl) (fun K' hK => ?_)
            go_simp
            with_reducible refine cS8.out.mono ?_
            rintro e w9 ⟨rfl, hd9⟩
            have B9 := Lib.hid (B8.out.trans (hd9.below.mono B8.out.size))
            try dsimp only
            refine hK.out _ _ ?hS (fun hH' => ?_)
            case hS =>
              exact KB hd9.below hH
            clear hK K' hH; have hH := hH'; clear hH'; repeat simp only [Act.put, uA1, uB1, uC1]
            refine kYH 7 hO hH ?_
            repeat simp only [Act.put, uA1, uB1, uC1]
            refine kYH 8 hO hH ?_
            repeat simp only [Act.put, uA1, uB1, uC1]
            refine kYH 9 hO hH ?_
            repeat simp only [Act.put, uA1, uB1, uC1]
            refine kYH 10 hO hH ?_
            repeat simp only [Act.put, uA1, uB1, uC1]
            refine kYH 11 hO hH ?_
            repeat simp only [Act.put, uA1, uB1, uC1]
            refine kYH 12 hO hH ?_
            repeat simp only [Act.put, uA1, uB1, uC1]
            refine kYH 13 hO hH ?_
            repeat simp only [Act.put, uA1, uB1, uC1]
            refine kYH 14 hO hH ?_
            repeat simp only [Act.put, uA1, uB1, uC1]
            refine kYH 15 hO hH ?_
            repeat simp only [Act.put, uA1, uB1, uC1]
            refine kYH 16 hO hH ?_
            repeat simp only [Act.put, uA1, uB1, uC1]
            refine kYH 17 hO hH ?_
            repeat simp only [Act.put, uA1, uB1, uC1]
            refine kNH 18 hO hH ?_
            repeat simp only [Act.put, uA1, uB1, uC1]
            refine kNH 19 hO hH ?_
            repeat simp only [Act.put, uA1, uB1, uC1]
            refine kNH 20 hO hH ?_
            repeat simp only [Act.put, uA1, uB1, uC1]
            refine kNH 21 hO hH ?_
            repeat simp only [Act.put, uA1, uB1, uC1]
            refine kNH 22 hO hH ?_
            repeat simp only [Act.put, uA1, uB1, uC1]
            refine kNH 23 hO hH ?_
            repeat simp only [Act.put, uA1, uB1, uC1]
            refine kNH 24 hO hH ?_
            repeat simp only [Act.put, uA1, uB1, uC1]
            refine kNH 25 hO hH ?_
            repeat simp only [Act.put, uA1, uB1, uC1]
            refine kYH 26 hO hH ?_
            repeat simp only [Act.put, uA1, uB1, uC1]
            refine kYH 27 hO hH ?_
            repeat simp only [Act.put, uA1, uB1, uC1]
            refine doneH hO (by decide +kernel) ?_
            clear hO
            clear hH hb8 hu8 hd9
            go_wp2_with fail
            go_roundg (R.length - 1)
            case measure => omega
            case rel => exact ⟨1, rfl, by omega, by go_num, B9.out⟩
          | t2 + 1, hj, hlt, PREV =>
            have htl : t2 < R.length := by omega
            have ho7 := own_below O5.out.1 B7.out
            have hf2 := flat3_get rs5 t2 (by omega)
            obtain ⟨⟨r0, r1⟩, rv⟩ := O5.out.2.own t2 (by omega) htl
            have d0 := own_cell ho7 rfl hf2.1
            have d1' := own_cell ho7 rfl hf2.2.1
            have d2' := own_cell ho7 rfl hf2.2.2
            obtain ⟨up2, un2, uc2, hu2⟩ := own_form rv
            rw [hu2] at d2'
            rw [r0] at d0
            rw [r1] at d1'
            have NB := PREV.out t2 htl (Nat.lt_succ_self t2)
            obtain ⟨zi, hzi⟩ : ∃ z, z = R[t2].id := ⟨_, rfl⟩
            obtain ⟨zd, hzd⟩ : ∃ z, z = R[t2].dist := ⟨_, rfl⟩
            rw [← hzi] at d0
            rw [← hzd] at d1'
            have NB2 := Lib.hid (show nearB zi zd yi yd = true from by rw [hzi, hzd, YY.out.1, YY.out.2]; exact NB)
            have KB := @keep6 t g (t2 * 3) yi yd (.slice up un uc) zi zd (.slice up2 un2 uc2)
            have I7 := Lib.hid (show C6 t g (t2 * 3) yi yd (.slice up un uc) zi zd (.slice up2 un2 uc2) W7 from ⟨cellsB Y7.out 0, cellsB Y7.out 1, cellsB Y7.out 2, d0, d1', d2'⟩)
            unfold C6 at KB I7
            have hw1 : IntKind.i64.wrap (((t2 + 1 : Nat) : Int) - 1) = (t2 : Int) := by rw [IntWalk.i64_in _ (by omega)]; omega
            have hw2 : IntKind.i64.wrap ((t2 : Int) + 1 - 1) = (t2 : Int) := by rw [IntWalk.i64_in _ (by omega)]; omega
            have hw3 : IntKind.i64.wrap (t2 : Int) = (t2 : Int) := IntWalk.i64_in _ (by omega)
            have hg1 : (0 : Int) < ((t2 + 1 : Nat) : Int) := by omega
            have hg2 : (0 : Int) < (t2 : Int) + 1 := by omega
            have hg3 : (0 : Int) ≤ (t2 : Int) ∧ (t2 : Int) < R.length := by omega
            have htn : ((t2 : Nat) : Int).toNat = t2 := Int.toNat_natCast _
            clear ho7 hf2 r0 r1 rv hu2 NB hzi hzd d0 d1' d2'
            go_upto_region 17 with fail
            refine region_goH (fun w' => w'.cell? ⟨t, 0, none⟩ = some (.int .u64 yi) ∧ w'.cell? ⟨t, 1, none⟩ = some (.int .u64 yd) ∧ w'.cell? ⟨t, 2, none⟩ = some (.slice up un uc) ∧ w'.cell? ⟨g, t2 * 3, none⟩ = some (.int .u64 zi) ∧ w'.cell? ⟨g, t2 * 3 + 1, none⟩ = some (.int .u64 zd) ∧ w'.cell? ⟨g, t2 * 3 + 1 + 1, none⟩ = some (.slice up2 un2 uc2)) 28 (by kernel_rfl) rfl ?hS0 (fun O hO hH => ?_)
            case hS0 =>
              rw [← HW.out]; exact I7.out
            rw [← HW.out] at hH ⊢
            refine kYH 0 hO hH ?_
            repeat simp only [Act.put, uA1, uB1, uC1]
            refine kYH 1 hO hH ?_
            repeat simp only [Act.put, uA1, uB1, uC1]
            refine kYH 2 hO hH ?_
            repeat simp only [Act.put, uA1, uB1, uC1]
            refine kYH 3 hO hH ?_
            repeat simp only [Act.put, uA1, uB1, uC1]
            refine kYH 4 hO hH ?_
            repeat simp only [Act.put, uA1, uB1, uC1]
            refine spkH 5 hO rfl (by decide +kernel) (by rfl) (fun K' hK => ?_)
            go_simp
            with_reducible refine cV.out.mono ?_
            rintro e w8 ⟨v8, rfl, hu8, -, hb8⟩
            obtain ⟨p8, c8, rfl, -, -, -, -⟩ := hu8.slice
            have cS8 := sameVecQ _ _ _ _ w8 (NV7.out.below hb8) hu8
            rw [EV.out, decide_eq_true (Eq.refl (vecOf s.L yi))] at cS8
            have cS8 := Lib.hid cS8
            have B8 := Lib.hid (B7.out.trans (hb8.mono B7.out.size))
            try dsimp only
            refine hK.out _ _ ?hS (fun hH' => ?_)
            case hS =>
              exact KB hb8 hH
            clear hK K' hH; have hH := hH'; clear hH'; repeat simp only [Act.put, uA1, uB1, uC1]
            refine spkH 6 hO rfl (by decide +kernel) (by rfl) (fun K' hK => ?_)
            go_simp
            with_reducible refine cS8.out.mono ?_
            rintro e w9 ⟨rfl, hd9⟩
            have B9 := Lib.hid (B8.out.trans (hd9.below.mono B8.out.size))
            try dsimp only
            refine hK.out _ _ ?hS (fun hH' => ?_)
            case hS =>
              exact KB hd9.below hH
            clear hK K' hH; have hH := hH'; clear hH'; repeat simp only [Act.put, uA1, uB1, uC1]
            refine kYH 7 hO hH ?_
            repeat simp only [Act.put, uA1, uB1, uC1]
            refine kYH 8 hO hH ?_
            repeat simp only [Act.put, uA1, uB1, uC1]
            refine kYH 9 hO hH ?_
            repeat simp only [Act.put, uA1, uB1, uC1]
            refine kYH 10 hO hH ?_
            repeat simp only [Act.put, uA1, uB1, uC1]
            refine kYH 11 hO hH ?_
            repeat simp only [Act.put, uA1, uB1, uC1]
            refine kYH 12 hO hH ?_
            repeat simp only [Act.put, uA1, uB1, uC1]
            refine kYH 13 hO hH ?_
            repeat simp only [Act.put, uA1, uB1, uC1]
            refine kYH 14 hO hH ?_
            repeat simp only [Act.put, uA1, uB1, uC1]
            refine kYH 15 hO hH ?_
            repeat simp only [Act.put, uA1, uB1, uC1]
            refine kYH 16 hO hH ?_
            repeat simp only [Act.put, uA1, uB1, uC1]
            refine kYH 17 hO hH ?_
            repeat simp only [Act.put, uA1, uB1, uC1]
            refine kYH 18 hO hH ?_
            repeat simp only [Act.put, uA1, uB1, uC1]
            refine kYH 19 hO hH ?_
            repeat simp only [Act.put, uA1, uB1, uC1]
            refine kYH 20 hO hH ?_
            repeat simp only [Act.put, uA1, uB1, uC1]
            refine kYH 21 hO hH ?_
            repeat simp only [Act.put, uA1, uB1, uC1]
            refine kYH 22 hO hH ?_
            repeat simp only [Act.put, uA1, uB1, uC1]
            refine kYH 23 hO hH ?_
            repeat simp only [Act.put, uA1, uB1, uC1]
            refine spkH 24 hO rfl (by decide +kernel) (by rfl) (fun K' hK => ?_)
            go_simp
            refine (refNearer zi zd yi yd _ _ _).mono ?_
            rintro e w10 ⟨rfl, hb10⟩
            rw [NB2.out]
            try dsimp only
            refine hK.out _ _ ?hS (fun hH' => ?_)
            case hS =>
              exact KB hb10 hH
            clear hK K' hH; have hH := hH'; clear hH'; repeat simp only [Act.put, uA1, uB1, uC1]
            refine kYH 25 hO hH ?_
            repeat simp only [Act.put, uA1, uB1, uC1]
            refine kYH 26 hO hH ?_
            repeat simp only [Act.put, uA1, uB1, uC1]
            refine kYH 27 hO hH ?_
            repeat simp only [Act.put, uA1, uB1, uC1]
            refine doneH hO (by decide +kernel) ?_
            clear hO
            have B10 := Lib.hid (B9.out.trans (hb10.mono B9.out.size))
            clear hH hb8 hu8 hd9 hb10
            go_wp2_with fail
            go_roundg (R.length - (t2 + 1 + 1))
            case measure => omega
            case rel => exact ⟨t2 + 1 + 1, rfl, by omega, by go_num, B10.out⟩
        · have FIN := Lib.hid (show Below w.heap.size w wr from BW5.out.trans (hbr.mono BW5.out.size))
          clear hbr
          go_wp2_with fail
          go_ret
          exact ⟨rfl, FIN.out⟩

end Go.Proofs.YtpjbkaibgajpcaaGreat
