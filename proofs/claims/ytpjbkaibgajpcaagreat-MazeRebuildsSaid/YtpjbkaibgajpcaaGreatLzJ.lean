/- maze's laws: MazeRebuilds. -/
import Derived.Test.YtpjbkaibgajpcaaGreatMrF
import Derived.Test.YtpjbkaibgajpcaaGreatMzI
import Derived.Test.YtpjbkaibgajpcaaGreatJ09
namespace Go.Proofs.YtpjbkaibgajpcaaGreat
open Go.RowKit Go.ChangeMaps
set_option maxRecDepth 20000

theorem srcFront {w : World} {p : Option Addr} {m c s : Nat} {xs : List Value} (h : SrcAt w p m c s xs) {k : Nat} (hk : k ≤ m) : SrcAt w p k c s (xs.take (k * s)) := by
  refine ⟨?_, fun hp => ?_, fun a ha j u hj => ?_⟩
  · have := h.len
    have h2 : k * s ≤ m * s := Nat.mul_le_mul_right _ hk
    rw [List.length_take]; omega
  · have := h.nil hp; omega
  · rw [List.getElem?_take] at hj
    split at hj
    · exact h.cells a ha j u hj
    · cases hj

theorem nameB {B : Nat} {w W : World} (h : Below B w W) : ∃ w3, w3 = W ∧ Below B w w3 := ⟨W, rfl, h⟩


set_option maxRecDepth 100000 in
set_option maxHeartbeats 16000000 in
theorem mazeRebuilds (w : World) (l : List (Int × List Int)) (nv : Value) (hR : Recs w nv l) (kv : Value) (ks0 : List Int) (hk : Nums w .u64 kv ks0) (v : Value) (xs : List Int) (hv : Nums w .i32 v xs) (ef : Int) (hef : 0 ≤ ef ∧ ef ≤ 255) :
    Law 8 #[nv, kv, v, .int .u8 ef] w := by
  have cA := Lib.hid (awake11 w)
  have LR := Lib.hid hR
  have V := Lib.hid hv
  have KV := Lib.hid hk
  obtain ⟨vq, vc, rfl, -, -, -, -⟩ := hv.slice
  obtain ⟨kp, kc, rfl, hk1, hk2, hk3, -⟩ := hk.slice
  clear hR hv hk
  go_enter Tryz.func8, Tryz.ntmps8
  go_wp2_with fail
  (with_reducible refine cA.out.mono ?_)
  rintro e w1 ⟨rfl, hb1⟩
  have cL := lzLay w1 2 l nv (LR.out.below hb1) 40 (by omega)
  rw [show ((40 : Nat) : Int) = 40 from rfl] at cL
  have cL := Lib.hid cL
  have B1 := Lib.hid hb1
  clear hb1
  go_wp2_with fail
  (with_reducible refine cL.out.mono ?_)
  rintro e w2 (⟨hno, -⟩ | ⟨-, z, p, m, mv, Q, VL, B', x, c, vn, ve, xlv, rs, rfl, hA, hX, hb2⟩)
  · exact absurd ⟨by decide, by decide⟩ hno
  have B2 := Lib.hid (B1.out.trans (hb2.mono B1.out.size))
  have OK := Lib.hid (layM_ok 2 l 40)
  have hlen := layM_len 2 l 40
  obtain ⟨s, hs⟩ : ∃ s, s = layM 2 l 40 := ⟨_, rfl⟩
  rw [← hs] at hA hX OK hlen
  have A2 := Lib.hid hA
  have X2 := Lib.hid hX
  have LM := Lib.hid hs
  clear hb2 hs hA hX
  obtain ⟨kn, hkn⟩ : ∃ n, n = min ks0.length 30 := ⟨_, rfl⟩
  obtain ⟨ks, hks⟩ : ∃ l, l = ks0.take kn := ⟨_, rfl⟩
  have hkl : ks.length = kn := by rw [hks, List.length_take]; omega
  have hmi : min (ks0.length : Int) 30 = (kn : Int) := by omega
  have hk30 : kn ≤ 30 := by omega
  have hk0 : kn ≤ ks0.length := by omega
  go_upto_region 6 with fail
  go_cut [1] (fun v' wc => ∃ (q : Option Addr) (cc : Nat), v' = .slice q kn cc ∧ wc.ownsRow w2.heap.size 36 1 (.slice q kn cc) kn (ks.map (Value.int .u64)) ∧ Below w2.heap.size w2 wc)
  case first =>
    cases kp with
    | none =>
      have hc0 := hk3 rfl
      have hl0 : ks0 = [] := List.eq_nil_of_length_eq_zero (by omega)
      subst hl0
      obtain rfl : kn = 0 := by simpa using hkn
      obtain rfl : ks = [] := by simpa using hks
      subst hc0
      have src : SrcAt (w2.alloc (.cells #[] 36)) none 0 0 1 (([] : List Int).map (Value.int .u64)) := SrcAt.none _ none 1 (.inl rfl)
      obtain ⟨aq, an, ac, w4, hrun4, hown4, hg4, -⟩ := run_app rowN (own_empty w2 w2.heap.size 36 1 (Nat.le_refl _)) (by simp) src one_nums (by simp only [maxLen]; omega) (by omega)
      simp only [List.nil_append, Nat.zero_add] at hown4
      have hb4 : Below w2.heap.size w2 w4 := ((Below.refl _ w2).alloc (Nat.le_refl _) _).grown hg4 (by simp) fun b hb => by simp only [Value.ownBlock, Option.some.injEq] at hb; omega
      have FIN := Lib.hid (And.intro hown4 hb4)
      clear hown4 hb4 hg4 src hk1 hk2 hk3 hkn hks hkl hmi
      go_wp2_with (with_reducible refine wpList_append_eq hrun4 rfl _ _ rfl rfl rfl ?_)
      go_meet
      obtain rfl : an = 0 := own_len FIN.out.1
      exact ⟨_, _, rfl, FIN.out.1, FIN.out.2⟩
    | some a =>
      have hbA : Below w2.heap.size w2 (w2.alloc (.cells #[] 36)) := (Below.refl _ _).alloc (Nat.le_refl _) _
      have src0 := (SrcAt.of_nums (KV.out.below (B2.out.trans (hbA.mono B2.out.size))))
      have src1 := srcFront src0 hk0
      have src : SrcAt (w2.alloc (.cells #[] 36)) (some a) kn kc 1 (ks.map (Value.int .u64)) := by
        rw [hks, List.map_take]
        simpa using src1
      obtain ⟨aq, an, ac, w4, hrun4, hown4, hg4, -⟩ := run_app rowN (own_empty w2 w2.heap.size 36 1 (Nat.le_refl _)) (by simp) src one_nums (by simp only [maxLen]; omega) (by omega)
      simp only [List.nil_append, Nat.zero_add] at hown4
      have hb4 : Below w2.heap.size w2 w4 := ((Below.refl _ w2).alloc (Nat.le_refl _) _).grown hg4 (by simp) fun b hb => by simp only [Value.ownBlock, Option.some.injEq] at hb; omega
      have FIN := Lib.hid (And.intro hown4 hb4)
      have hkc : kn ≤ kc := by omega
      have hkci : (kn : Int) ≤ kc := by omega
      have hk0i : (0 : Int) ≤ kn := by omega
      clear hown4 hb4 hg4 src src0 src1 hbA hk1 hk2 hk3 hkn hks hkl
      go_wp2_with (with_reducible refine wpList_append_eq hrun4 rfl _ _ rfl rfl rfl ?_)
      go_meet
      obtain rfl : an = kn := own_len FIN.out.1
      exact ⟨_, _, rfl, FIN.out.1, FIN.out.2⟩
  case rest =>
    obtain ⟨kq, kc2, rfl, hok, hbk⟩ := hcut
    obtain ⟨w3, hw3, -⟩ := nameB hbk
    subst hw3
    have O3 := Lib.hid hok
    have hb3 := hbk
    have A3 := Lib.hid (A2.out.below hb3)
    have X3 := Lib.hid (X2.out.below hb3)
    have B3 := Lib.hid (B2.out.trans (hb3.mono B2.out.size))
    obtain ⟨aq, an, ac, w5, hrun5, hown5, hg5, -⟩ := run_app rowN (own_empty w3 w3.heap.size 36 1 (Nat.le_refl _)) (by simp) (SrcAt.of_own (own_below hok ((Below.refl _ _).alloc (Nat.le_refl _) (.cells #[] 36)))) one_nums (by simp only [maxLen]; omega) (by omega)
    simp only [List.nil_append, Nat.zero_add] at hown5
    have hb5 : Below w3.heap.size w3 w5 := ((Below.refl _ w3).alloc (Nat.le_refl _) _).grown hg5 (by simp) fun b hb => by simp only [Value.ownBlock, Option.some.injEq] at hb; omega
    obtain rfl : kn = an := (own_len hown5).symm
    have O5 := Lib.hid hown5
    have K5 := Lib.hid (Nums.of_own (xs := ks) (own_below hok hb5))
    have A5 := Lib.hid (A3.out.below hb5)
    have X5 := Lib.hid (X3.out.below hb5)
    have B5 := Lib.hid (B3.out.trans (hb5.mono B3.out.size))
    have LEN := Lib.hid hlen
    have hw3 : w3.heap.size ≤ w5.heap.size := hb5.size
    have M5 := Lib.hid (Nums.of_own (xs := ks) hown5)
    have cR := Lib.hid (mRebuild A5.out OK.out (by omega) _ ks M5.out (by omega))
    clear hown5 hg5 hb5 hok hbk hb3 hk1 hk2 hk3 hkn hks hmi hk0 hlen
    go_wp2_with (with_reducible refine wpList_append_eq hrun5 rfl _ _ rfl rfl rfl ?_)
    (with_reducible refine cR.out.mono ?_)
    rintro e w6 ⟨z6, p6, m6, mv6, Q6, VL6, rfl, hA6, hb6⟩
    have T6 := Lib.hid hA6
    have K6 := Lib.hid (K5.out.below hb6)
    have M6 := Lib.hid (M5.out.below hb6)
    have A6 := Lib.hid (A5.out.below hb6)
    have X6 := Lib.hid (X5.out.below hb6)
    have B6 := Lib.hid (B5.out.trans (hb6.mono B5.out.size))
    have cQ := Lib.hid (rRebuild X6.out OK.out (by omega) _ ks K6.out (by omega))
    have RO := Lib.hid (show OkM 2 (rebM 2 s ks) from rebN_ok 2 s _ _)
    have RL := Lib.hid (show (rebM 2 s ks).L.length ≤ 30 from Nat.le_trans (rebN_len 2 s _ _) (by have := (uniq_of ks).2.2; omega))
    obtain ⟨r, hr⟩ : ∃ r, r = rebM 2 s ks := ⟨_, rfl⟩
    rw [← hr] at cQ RO RL T6
    clear hA6 hb6 hr
    go_wp2_with fail
    (with_reducible refine cQ.out.mono ?_)
    rintro e w7 ⟨x7, c7, vn7, ve7, lv7, rs7, rfl, hX7, hb7⟩
    have Y7 := Lib.hid hX7
    have T7 := Lib.hid (T6.out.below hb7)
    have K7 := Lib.hid (K6.out.below hb7)
    have M7 := Lib.hid (M6.out.below hb7)
    have A7 := Lib.hid (A6.out.below hb7)
    have X7 := Lib.hid (X6.out.below hb7)
    have B7 := Lib.hid (B6.out.trans (hb7.mono B6.out.size))
    have cS1 := Lib.hid (lzSame T7.out Y7.out RO.out (by have := RL.out; omega))
    clear hX7 hb7
    go_wp2_with fail
    (with_reducible refine cS1.out.mono ?_)
    rintro e w8 ⟨rfl, hb8⟩
    have Y8 := Lib.hid (Y7.out.below hb8)
    have T8 := Lib.hid (T7.out.below hb8)
    have K8 := Lib.hid (K7.out.below hb8)
    have M8 := Lib.hid (M7.out.below hb8)
    have B8 := Lib.hid (B7.out.trans (hb8.mono B7.out.size))
    have cS2 := Lib.hid (lzSame (A7.out.below hb8) (X7.out.below hb8) OK.out (by have := LEN.out; omega))
    clear hb8
    go_wp2_with fail
    (with_reducible refine cS2.out.mono ?_)
    rintro e w9 ⟨rfl, hb9⟩
    have Y9 := Lib.hid (Y8.out.below hb9)
    have T9 := Lib.hid (T8.out.below hb9)
    have B9 := Lib.hid (B8.out.trans (hb9.mono B8.out.size))
    have cN := sameNums ks ks _ _ w9 (M8.out.below hb9) (K8.out.below hb9)
    rw [decide_eq_true (Eq.refl ks)] at cN
    have cN := Lib.hid cN
    clear hb9
    go_wp2_with fail
    (with_reducible refine cN.out.mono ?_)
    rintro e w2 ⟨rfl, hd2⟩
    have A2 := Lib.hid (T9.out.below hd2.below)
    have X2 := Lib.hid (Y9.out.below hd2.below)
    have B2 := Lib.hid (B9.out.trans (hd2.below.mono B9.out.size))
    clear hd2 hkl hk30 hw3
    go_upto_region 12 with fail
    have cC := cutVec xs (.slice vq xs.length vc) 2 w2 (V.out.below B2.out) (by decide) (.inr (by decide))
    rw [show Int.toNat 2 = 2 from rfl] at cC
    have cC := Lib.hid cC
    go_wp2_with fail
    (with_reducible refine cC.out.mono ?_)
    rintro e w3 ⟨v3, rfl, ho3, hb3⟩
    obtain ⟨pq3, hq3⟩ : ∃ q, q = xs.take 2 := ⟨_, rfl⟩
    have hq3l : pq3.length ≤ 2 := by rw [hq3]; exact List.length_take_le _ _
    rw [← hq3] at ho3
    obtain ⟨vq3, vn3, vc3, rfl⟩ := own_form ho3
    obtain rfl : vn3 = pq3.length := own_len ho3
    obtain ⟨W3, hW3⟩ : ∃ W3, W3 = w3.alloc (.cells #[.int .i32 0, .int .i32 0] 21) := ⟨_, rfl⟩
    have hb3a : Below w3.heap.size w3 W3 := by rw [hW3]; exact (Below.refl _ _).alloc (Nat.le_refl _) _
    have y3 : W3.heap[w3.heap.size]? = some (.cells #[.int .i32 0, .int .i32 0] 21 (0, 0)) := by rw [hW3]; exact heap_alloc_new _ _
    have hsrc : SrcAt W3 (some ⟨w3.heap.size, 0, none⟩) 2 2 1 [.int .i32 0, .int .i32 0] := by
      have h1 : Nums W3 .i32 (.slice (some ⟨w3.heap.size, 0, none⟩) 2 2) [0, 0] := Nums.mk (xs := [0, 0]) (by simp) (by simp) (by simp) (fun i hi => ⟨w3.heap.size, 0, rfl, by
        have hi2 : i < 2 := hi
        match i, hi2 with
        | 0, _ => exact cellsB y3 0
        | 1, _ => exact cellsB y3 1⟩)
      exact SrcAt.of_nums (xs := [0, 0]) h1
    obtain ⟨aq, an, ac, w4, hrun4, hown4, hg4, -⟩ := run_app rowI32M (own_below ho3 hb3a) (Nat.le_trans hb3.size hb3a.size) hsrc (by simp [Value.oneCell']) (by simp [maxLen]; omega) (by omega)
    obtain rfl : pq3.length + 2 = an := (own_len hown4).symm
    obtain ⟨ga, ca, hva, -, -⟩ := hown4.form (by omega)
    obtain ⟨rfl, -, rfl⟩ := Value.slice.inj hva
    have hb4 : Below w2.heap.size w2 w4 := (hb3.trans (hb3a.mono hb3.size)).grown hg4 (Nat.le_trans hb3.size hb3a.size) (fun b hb => (ho3.lt b hb).1)
    obtain ⟨ys, hys⟩ : ∃ ys, ys = (pq3 ++ [0, 0]).take 2 := ⟨_, rfl⟩
    have hyl : ys.length = 2 := by rw [hys]; simp
    have ho4 : w4.ownsRow w2.heap.size 21 1 (.slice (some ⟨ga, 0, none⟩) 2 ac) 2 (ys.map (Value.int .i32)) := by
      have h1 := own_prefix hown4 (k := 2) (by omega)
      rw [hys, List.map_take, List.map_append]
      simpa using h1
    have hac : (2 : Int) ≤ ac := by
      obtain ⟨-, ⟨h2, -⟩ | ⟨g', cap', cur, hv, -, -, hn, -⟩⟩ := hown4
      · cases h2
      · obtain ⟨-, -, rfl⟩ := Value.slice.inj hv
        omega
    have YS := Lib.hid (And.intro hyl (hys.trans (by rw [hq3])))
    have O4 := Lib.hid ho4
    have A4 := Lib.hid (A2.out.below hb4)
    have X4 := Lib.hid (X2.out.below hb4)
    have B4 := Lib.hid (B2.out.trans (hb4.mono B2.out.size))
    have B24 := Lib.hid hb4
    rw [hW3] at hrun4
    clear ho3 hb3 hq3 hW3 hb3a y3 hsrc hown4 hg4 hva hb4 hys ho4 hyl
    go_upto_region 12 with (with_reducible refine wpList_append_eq hrun4 rfl _ _ rfl rfl rfl ?_)
    obtain ⟨kk, hkk⟩ : ∃ kk : Int, kk = 1 + ef := ⟨_, rfl⟩
    have hw1 : IntKind.i64.wrap ef = ef := IntWalk.i64_in _ (by omega)
    have hw2 : IntKind.i64.wrap (1 + ef) = 1 + ef := IntWalk.i64_in _ (by omega)
    have cF := Lib.hid (mFind A4.out rfl RO.out (by have := RL.out; omega) (.slice (some ⟨ga, 0, none⟩) 2 ac) ys (Nums.of_own O4.out) kk)
    clear hef hac
    go_wp2_with fail
    try rw [← hkk]
    (with_reducible refine cF.out.mono ?_)
    rintro e wa ⟨u5, rs5, rfl, ho5, hh5, hb5⟩
    obtain ⟨FR, hFR⟩ : ∃ f, f = findM 2 r ys kk := ⟨_, rfl⟩
    rw [← hFR] at hh5 ⊢
    obtain ⟨uq, un, uc, rfl⟩ := own_form ho5
    have H5 := Lib.hid (show HitsF wa _ (.slice uq un uc) FR.1 from HitsF.of_own ho5 (fun b hb => ho5.lt b hb) hh5.rows)
    have N5 := Lib.hid ((Nums.of_own O4.out).below hb5)
    have X5 := Lib.hid (X4.out.below hb5)
    have BW5 := Lib.hid (B4.out.trans (hb5.mono B4.out.size))
    have cG := rFind X5.out RO.out (by have := RL.out; omega) _ ys N5.out kk
    rw [← hFR] at cG
    have cG := Lib.hid cG
    clear ho5 hh5 hb5 hFR
    go_wp2_with fail
    try rw [← hkk]
    (with_reducible refine cG.out.mono ?_)
    rintro e wb ⟨u6, F6, rfl, hh6, hb6⟩
    have cH := Lib.hid (sameHits_self _ _ FR.1 _ _ wb (H5.out.below hb6) hh6)
    have BW6 := Lib.hid (BW5.out.trans (hb6.mono BW5.out.size))
    clear hh6 hb6
    go_wp2_with fail
    (with_reducible refine cH.out.mono ?_)
    rintro e wd ⟨rfl, hd7⟩
    have BW7 := Lib.hid (BW6.out.trans (hd7.below.mono BW6.out.size))
    clear hd7
    go_wp2_with fail
    go_ret
    exact ⟨rfl, BW7.out⟩

end Go.Proofs.YtpjbkaibgajpcaaGreat
