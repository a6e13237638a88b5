/- maze's laws: MazeReaches. -/
import Derived.Test.YtpjbkaibgajpcaaGreatMzQ
import Derived.Test.YtpjbkaibgajpcaaGreatJ09
import Derived.Test.YtpjbkaibgajpcaaGreatMzI
namespace Go.Proofs.YtpjbkaibgajpcaaGreat
open Go.RowKit Go.ChangeMaps
set_option maxRecDepth 20000

set_option maxRecDepth 100000 in
set_option maxHeartbeats 16000000 in
theorem mazeReaches (w : World) (l : List (Int × List Int)) (nv : Value) (hR : Recs w nv l) (v : Value) (xs : List Int) (hv : Nums w .i32 v xs) :
    Law 6 #[nv, v] w := by
  have cA := Lib.hid (awake11 w)
  have LR := Lib.hid hR
  have V := Lib.hid hv
  obtain ⟨vq, vc, rfl, -, -, -, -⟩ := hv.slice
  clear hR hv
  go_enter Tryz.func6, Tryz.ntmps6
  go_wp2_with fail
  (with_reducible refine cA.out.mono ?_)
  rintro e w1 ⟨rfl, hb1⟩
  have cL := lzLay w1 2 l nv (LR.out.below hb1) 60 (by omega)
  rw [show ((60 : Nat) : Int) = 60 from rfl] at cL
  have cL := Lib.hid cL
  have B1 := Lib.hid hb1
  clear hb1
  go_wp2_with fail
  (with_reducible refine cL.out.mono ?_)
  rintro e w2 (⟨hno, -⟩ | ⟨-, z, p, m, mv, Q, VL, B', x, c, vn, ve, xlv, rs, rfl, hA, hX, hb2⟩)
  · exact absurd ⟨by decide, by decide⟩ hno
  have B2 := Lib.hid (B1.out.trans (hb2.mono B1.out.size))
  have OK := Lib.hid (layM_ok 2 l 60)
  have hlen := layM_len 2 l 60
  obtain ⟨s, hs⟩ : ∃ s, s = layM 2 l 60 := ⟨_, rfl⟩
  rw [← hs] at hA hX OK hlen
  have A2 := Lib.hid hA
  have X2 := Lib.hid hX
  have LM := Lib.hid hs
  clear hb2 hs hA hX
  have TR := Lib.hid (show TreeM s from by rw [LM.out]; exact layM_tree 2 l 60)
  have cL := Lib.hid A2.out.length
  have hNL := ok_len OK.out
  by_cases hL0 : s.L = []
  · have hz : s.N.length = 0 := by rw [hNL, hL0]; rfl
    rw [hz] at cL
    clear hL0 hz hNL hlen
    go_wp2_with fail
    (with_reducible refine cL.out.mono ?_)
    rintro e w3 ⟨rfl, rfl⟩
    go_wp2_with fail
    go_ret
    exact ⟨rfl, B2.out⟩
  · have hpos : 0 < s.L.length := List.length_pos_iff.2 hL0
    have LP := Lib.hid hL0
    have hN60 : s.N.length ≤ 100000 := by omega
    have HL := Lib.hid (And.intro hpos hlen)
    obtain ⟨n, hn⟩ : ∃ n, n = s.N.length := ⟨_, rfl⟩
    have hn0 : 0 < n := by omega
    have hn60 : n ≤ 60 := by omega
    have hnz : ((n : Int) == 0) = false := by simp only [beq_eq_false_iff_ne, ne_eq]; omega
    have hnz2 : ¬ n = 0 := by omega
    have cE := mEntry A2.out rfl OK.out
    rw [show (!s.L.isEmpty) = true from by cases hs : s.L with
          | nil => exact absurd hs hL0
          | cons a l => rfl] at cE
    have cE := Lib.hid cE
    have cRe := A2.out.reach hN60 (entryZ s.L)
    rw [reach_all OK.out TR.out hL0] at cRe
    have cRe := Lib.hid cRe
    have NN := Lib.hid hn
    rw [← hn] at cL
    obtain ⟨en, hen⟩ : ∃ e, e = entryZ s.L := ⟨_, rfl⟩
    rw [← hen] at cE cRe
    have EN := Lib.hid hen
    clear hL0 hpos hNL hlen hn hen
    go_wp2_with fail
    (with_reducible refine cL.out.mono ?_)
    rintro e w3 ⟨rfl, rfl⟩
    go_wp2_with fail
    (with_reducible refine cE.out.mono ?_)
    rintro e w3 ⟨rfl, rfl⟩
    go_wp2_with fail
    (with_reducible refine cRe.out.mono ?_)
    rintro e w4 ⟨v4, rfl, ho4, hb4⟩
    obtain ⟨p4, n4, c4, rfl⟩ := own_form ho4
    have N4 := Lib.hid (Nums.of_own ho4)
    have A4 := Lib.hid (A2.out.below hb4)
    have X4 := Lib.hid (X2.out.below hb4)
    have B4 := Lib.hid (B2.out.trans (hb4.mono B2.out.size))
    have cK := Lib.hid (A4.out.keys hN60)
    clear ho4 hb4
    go_wp2_with fail
    (with_reducible refine cK.out.mono ?_)
    rintro e w5 ⟨v5, rfl, ho5, hb5⟩
    obtain ⟨p5, n5, c5, rfl⟩ := own_form ho5
    have cS := sameNums s.N s.N _ _ w5 (N4.out.below hb5) (Nums.of_own ho5)
    rw [decide_eq_true (Eq.refl s.N)] at cS
    have cS := Lib.hid cS
    have A5 := Lib.hid (A4.out.below hb5)
    have X5 := Lib.hid (X4.out.below hb5)
    have B5 := Lib.hid (B4.out.trans (hb5.mono B4.out.size))
    clear ho5 hb5
    go_wp2_with fail
    (with_reducible refine cS.out.mono ?_)
    rintro e w2 ⟨rfl, hd2⟩
    have A2 := Lib.hid (A5.out.below hd2.below)
    have X2 := Lib.hid (X5.out.below hd2.below)
    have B2 := Lib.hid (B5.out.trans (hd2.below.mono B5.out.size))
    clear hd2
    go_upto_region 11 with fail
    have cC := cutVec xs (.slice vq xs.length vc) 2 w2 (V.out.below B2.out) (by decide) (.inr (by decide))
    rw [show Int.toNat 2 = 2 from rfl] at cC
    have cC := Lib.hid cC
    go_wp2_with fail
    (with_reducible refine cC.out.mono ?_)
    rintro e w3 ⟨v3, rfl, ho3, hb3⟩
    obtain ⟨pq3, hq3⟩ : ∃ q, q = xs.take 2 := ⟨_, rfl⟩
    have hq3l : pq3.length ≤ 2 := by rw [hq3]; exact List.length_take_le _ _
    rw [← hq3] at ho3
    obtain ⟨vq3, vn3, vc3, rfl⟩ := own_form ho3
    obtain rfl : vn3 = pq3.length := own_len ho3
    obtain ⟨W3, hW3⟩ : ∃ W3, W3 = w3.alloc (.cells #[.int .i32 0, .int .i32 0] 21) := ⟨_, rfl⟩
    have hb3a : Below w3.heap.size w3 W3 := by rw [hW3]; exact (Below.refl _ _).alloc (Nat.le_refl _) _
    have y3 : W3.heap[w3.heap.size]? = some (.cells #[.int .i32 0, .int .i32 0] 21 (0, 0)) := by rw [hW3]; exact heap_alloc_new _ _
    have hsrc : SrcAt W3 (some ⟨w3.heap.size, 0, none⟩) 2 2 1 [.int .i32 0, .int .i32 0] := by
      have h1 : Nums W3 .i32 (.slice (some ⟨w3.heap.size, 0, none⟩) 2 2) [0, 0] := Nums.mk (xs := [0, 0]) (by simp) (by simp) (by simp) (fun i hi => ⟨w3.heap.size, 0, rfl, by
        have hi2 : i < 2 := hi
        match i, hi2 with
        | 0, _ => exact cellsB y3 0
        | 1, _ => exact cellsB y3 1⟩)
      exact SrcAt.of_nums (xs := [0, 0]) h1
    obtain ⟨aq, an, ac, w4, hrun4, hown4, hg4, -⟩ := run_app rowI32M (own_below ho3 hb3a) (Nat.le_trans hb3.size hb3a.size) hsrc (by simp [Value.oneCell']) (by simp [maxLen]; omega) (by omega)
    obtain rfl : pq3.length + 2 = an := (own_len hown4).symm
    obtain ⟨ga, ca, hva, -, -⟩ := hown4.form (by omega)
    obtain ⟨rfl, -, rfl⟩ := Value.slice.inj hva
    have hb4 : Below w2.heap.size w2 w4 := (hb3.trans (hb3a.mono hb3.size)).grown hg4 (Nat.le_trans hb3.size hb3a.size) (fun b hb => (ho3.lt b hb).1)
    obtain ⟨ys, hys⟩ : ∃ ys, ys = (pq3 ++ [0, 0]).take 2 := ⟨_, rfl⟩
    have hyl : ys.length = 2 := by rw [hys]; simp
    have ho4 : w4.ownsRow w2.heap.size 21 1 (.slice (some ⟨ga, 0, none⟩) 2 ac) 2 (ys.map (Value.int .i32)) := by
      have h1 := own_prefix hown4 (k := 2) (by omega)
      rw [hys, List.map_take, List.map_append]
      simpa using h1
    have hac : (2 : Int) ≤ ac := by
      obtain ⟨-, ⟨h2, -⟩ | ⟨g', cap', cur, hv, -, -, hn, -⟩⟩ := hown4
      · cases h2
      · obtain ⟨-, -, rfl⟩ := Value.slice.inj hv
        omega
    have YS := Lib.hid (And.intro hyl (hys.trans (by rw [hq3])))
    have O4 := Lib.hid ho4
    have A4 := Lib.hid (A2.out.below hb4)
    have X4 := Lib.hid (X2.out.below hb4)
    have B4 := Lib.hid (B2.out.trans (hb4.mono B2.out.size))
    have B24 := Lib.hid hb4
    rw [hW3] at hrun4
    clear ho3 hb3 hq3 hW3 hb3a y3 hsrc hown4 hg4 hva hb4 hys ho4 hyl
    go_upto_region 11 with (with_reducible refine wpList_append_eq hrun4 rfl _ _ rfl rfl rfl ?_)
    have hlen := HL.out.2
    have cF := mFind A4.out rfl OK.out (by omega) (.slice (some ⟨ga, 0, none⟩) 2 ac) ys (Nums.of_own O4.out) n
    have cF := Lib.hid cF
    have cL4 := A4.out.length
    rw [← NN.out] at cL4
    have cL4 := Lib.hid cL4
    have hmx : max (n : Int) 1 = (n : Int) := by omega
    have hmy : max 1 (n : Int) = (n : Int) := by omega
    clear hlen
    go_wp2_with fail
    (with_reducible refine cL4.out.mono ?_)
    rintro e w4' ⟨rfl, rfl⟩
    go_wp2_with fail
    (with_reducible refine cF.out.mono ?_)
    rintro e w5 ⟨u5, rs5, rfl, ho5, hh5, hb5⟩
    have N5 := Lib.hid ((Nums.of_own O4.out).below hb5)
    have cR := Lib.hid (refRight ys (.slice (some ⟨ga, 0, none⟩) 2 ac) w5 N5.out)
    have A5 := Lib.hid (A4.out.below hb5)
    have X5 := Lib.hid (X4.out.below hb5)
    have BW5 := Lib.hid (B4.out.trans (hb5.mono B4.out.size))
    obtain ⟨uq, un5, uc5, rfl⟩ := own_form ho5
    cases hrb : rightB ys with
    | false =>
      have hrz : rightZ 2 ys = false := by unfold rightZ; rw [hrb]; rfl
      have hfz : findM 2 s ys n = ([], 0, 4) := by unfold findM; rw [if_neg (by omega), if_pos hrz]
      rw [hrb] at cR
      rw [hfz]
      clear ho5 hh5 hb5 hrz hfz hrb hmx hmy
      go_wp2_with fail
      (with_reducible refine cR.out.mono ?_)
      rintro e w6 ⟨rfl, rfl⟩
      go_wp2_with fail
      go_ret
      exact ⟨rfl, BW5.out⟩
    | true =>
      have hrz : rightZ 2 ys = true := by unfold rightZ; rw [hrb, YS.out.1]; rfl
      obtain ⟨R, hR, hA⟩ := find_all OK.out TR.out LP.out hrz (by have := HL.out.2; omega)
      rw [← NN.out] at hR
      rw [hrb] at cR
      rw [hR] at hh5 ⊢
      have H5 := Lib.hid (show HitsF w5 _ (.slice uq un5 uc5) R from HitsF.of_own ho5 (fun b hb => ho5.lt b hb) hh5.rows)
      have cAl := Lib.hid (rAll X5.out OK.out (by have := HL.out.2; omega) _ ys N5.out R hA)
      have cL5 := A5.out.length
      rw [← NN.out] at cL5
      have cL5 := Lib.hid cL5
      clear ho5 hh5 hb5 hrz hrb hR hA hmx hmy
      go_wp2_with fail
      (with_reducible refine cR.out.mono ?_)
      rintro e w6 ⟨rfl, rfl⟩
      go_wp2_with fail
      (with_reducible refine cL5.out.mono ?_)
      rintro e w6 ⟨rfl, rfl⟩
      go_wp2_with fail
      (with_reducible refine cAl.out.mono ?_)
      rintro e w7 ⟨u7, F7, rfl, hh7, hb7⟩
      have cQ := Lib.hid (sameHits_self _ _ R _ _ w7 (H5.out.below hb7) hh7)
      have B7 := Lib.hid (BW5.out.trans (hb7.mono BW5.out.size))
      clear hh7 hb7
      go_wp2_with fail
      (with_reducible refine cQ.out.mono ?_)
      rintro e w8 ⟨rfl, hd8⟩
      have B8 := Lib.hid (B7.out.trans (hd8.below.mono B7.out.size))
      clear hd8
      go_wp2_with fail
      go_ret
      exact ⟨rfl, B8.out⟩

end Go.Proofs.YtpjbkaibgajpcaaGreat
