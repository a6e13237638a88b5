/- maze's laws: MazePlays. -/
import Derived.Test.YtpjbkaibgajpcaaGreatJ43
import Derived.Test.YtpjbkaibgajpcaaGreatJ09
namespace Go.Proofs.YtpjbkaibgajpcaaGreat
open Go.RowKit Go.ChangeMaps
set_option maxRecDepth 20000

set_option maxRecDepth 100000 in
set_option maxHeartbeats 8000000 in
theorem mazePlays (w : World) (dim : Int) (l : List (Int × List Int)) (lv : Value) (hR : Recs w lv l) (v : Value) (xs : List Int) (hv : Nums w .i32 v xs) (ef : Int) :
    Law 5 #[.int .i64 dim, lv, v, .int .i64 ef] w := by
  have cA := Lib.hid (awake11 w)
  have LR := Lib.hid hR
  have V := Lib.hid hv
  obtain ⟨vq, vc, rfl, -, -, -, -⟩ := hv.slice
  clear hR hv
  go_enter Tryz.func5, Tryz.ntmps5
  go_wp2_with fail
  (with_reducible refine cA.out.mono ?_)
  rintro e w1 ⟨rfl, hb1⟩
  have cL := lzLay w1 dim l lv (LR.out.below hb1) 40 (by omega)
  rw [show ((40 : Nat) : Int) = 40 from rfl] at cL
  have cL := Lib.hid cL
  have B1 := Lib.hid hb1
  clear hb1
  go_wp2_with fail
  (with_reducible refine cL.out.mono ?_)
  rintro e w2 (⟨-, rfl, hb2⟩ | ⟨-, z, p, m, mv, Q, VL, B', x, c, vn, ve, xlv, rs, rfl, hA, hX, hb2⟩)
  · have B2 := Lib.hid (B1.out.trans (hb2.mono B1.out.size))
    clear hb2
    go_wp2_with fail
    go_ret
    exact ⟨rfl, B2.out⟩
  · have B2 := Lib.hid (B1.out.trans (hb2.mono B1.out.size))
    have OK := Lib.hid (layM_ok dim l 40)
    have hlen := layM_len dim l 40
    obtain ⟨s, hs⟩ : ∃ s, s = layM dim l 40 := ⟨_, rfl⟩
    rw [← hs] at hA hX OK hlen
    have A2 := Lib.hid hA
    have X2 := Lib.hid hX
    have cC := cutVec xs (.slice vq xs.length vc) 10 w2 (V.out.below B2.out) (by decide) (.inr (by decide))
    rw [show Int.toNat 10 = 10 from rfl] at cC
    have cC := Lib.hid cC
    clear hb2 hs hA hX
    go_wp2_with fail
    (with_reducible refine cC.out.mono ?_)
    rintro e w3 ⟨v3, rfl, ho3, hb3⟩
    obtain ⟨ys, hys⟩ : ∃ ys, ys = xs.take 10 := ⟨_, rfl⟩
    rw [← hys] at ho3
    obtain ⟨vq3, vn3, vc3, rfl⟩ := own_form ho3
    have N3 := Lib.hid (Nums.of_own ho3)
    have A3 := Lib.hid (A2.out.below hb3)
    have X3 := Lib.hid (X2.out.below hb3)
    have B3 := Lib.hid (B2.out.trans (hb3.mono B2.out.size))
    have cF := Lib.hid (mFind A3.out rfl OK.out (by omega) _ ys N3.out ef)
    obtain ⟨FR, hFR⟩ : ∃ r, r = findM dim s ys ef := ⟨_, rfl⟩
    rw [← hFR] at cF
    clear ho3 hb3 hys
    go_wp2_with fail
    (with_reducible refine cF.out.mono ?_)
    rintro e w4 ⟨u4, rs4, rfl, ho4, hh4, hb4⟩
    obtain ⟨uq, un, uc, rfl⟩ := own_form ho4
    have H4 := Lib.hid (show HitsF w4 _ (.slice uq un uc) FR.1 from HitsF.of_own ho4 (fun b hb => ho4.lt b hb) hh4.rows)
    have A4 := Lib.hid (A3.out.below hb4)
    have X4 := Lib.hid (X3.out.below hb4)
    have B4 := Lib.hid (B3.out.trans (hb4.mono B3.out.size))
    have cR := Lib.hid (rFind X4.out OK.out (by omega) _ ys (N3.out.below hb4) ef)
    rw [← hFR] at cR
    clear ho4 hh4 hb4 hFR
    go_wp2_with fail
    (with_reducible refine cR.out.mono ?_)
    rintro e w5 ⟨u5, F5, rfl, hh5, hb5⟩
    have cS := Lib.hid (lzSame (A4.out.below hb5) (X4.out.below hb5) OK.out (by omega))
    have H5 := Lib.hid (And.intro (H4.out.below hb5) hh5)
    have B5 := Lib.hid (B4.out.trans (hb5.mono B4.out.size))
    clear hh5 hb5
    go_wp2_with fail
    (with_reducible refine cS.out.mono ?_)
    rintro e w6 ⟨rfl, hb6⟩
    have cQ := Lib.hid (sameHits_self _ _ FR.1 _ _ w6 (H5.out.1.below hb6) (H5.out.2.below hb6))
    have B6 := Lib.hid (B5.out.trans (hb6.mono B5.out.size))
    clear hb6
    go_wp2_with fail
    (with_reducible refine cQ.out.mono ?_)
    rintro e w7 ⟨rfl, hd7⟩
    have B7 := Lib.hid (B6.out.trans (hd7.below.mono B6.out.size))
    clear hd7
    go_wp2_with fail
    go_ret
    exact ⟨rfl, B7.out⟩

end Go.Proofs.YtpjbkaibgajpcaaGreat
