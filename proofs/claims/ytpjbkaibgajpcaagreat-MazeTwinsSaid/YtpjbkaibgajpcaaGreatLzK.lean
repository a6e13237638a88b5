/- maze's laws: MazeTwins. -/
import Derived.Test.YtpjbkaibgajpcaaGreatMzU
import Derived.Test.YtpjbkaibgajpcaaGreatJ09
namespace Go.Proofs.YtpjbkaibgajpcaaGreat
open Go.RowKit Go.ChangeMaps
set_option maxRecDepth 20000

set_option maxRecDepth 100000 in
set_option maxHeartbeats 16000000 in
theorem mazeTwins (w : World) (l : List (Int × List Int)) (nv : Value) (hR : Recs w nv l) :
    Law 9 #[nv] w := by
  have cA := Lib.hid (awake11 w)
  have LR := Lib.hid hR
  clear hR
  go_enter Tryz.func9, Tryz.ntmps9
  go_wp2_with fail
  (with_reducible refine cA.out.mono ?_)
  rintro e w1 ⟨rfl, hb1⟩
  have cL := lzLay w1 2 l nv (LR.out.below hb1) 40 (by omega)
  rw [show ((40 : Nat) : Int) = 40 from rfl] at cL
  have cL := Lib.hid cL
  have B1 := Lib.hid hb1
  clear hb1
  go_wp2_with fail
  (with_reducible refine cL.out.mono ?_)
  rintro e w2 (⟨hno, -⟩ | ⟨-, z, p, m, mv, Q, VL, B', x, c, vn, ve, xlv, rs, rfl, hA, hX, hb2⟩)
  · exact absurd ⟨by decide, by decide⟩ hno
  have B2 := Lib.hid (B1.out.trans (hb2.mono B1.out.size))
  have A2 := Lib.hid hA
  have X2 := Lib.hid hX
  have cM := lzLay w2 2 l nv (LR.out.below B2.out) 40 (by omega)
  rw [show ((40 : Nat) : Int) = 40 from rfl] at cM
  have cM := Lib.hid cM
  clear hb2 hA hX
  go_wp2_with fail
  (with_reducible refine cM.out.mono ?_)
  rintro e w3 (⟨hno, -⟩ | ⟨-, z2, p2, m2, mv2, Q2, VL2, B2', x2, c2, vn2, ve2, xlv2, rs2, rfl, hA3, hX3, hb3⟩)
  · exact absurd ⟨by decide, by decide⟩ hno
  have B3 := Lib.hid (B2.out.trans (hb3.mono B2.out.size))
  have OK := Lib.hid (layM_ok 2 l 40)
  have hlen := layM_len 2 l 40
  obtain ⟨s, hs⟩ : ∃ s, s = layM 2 l 40 := ⟨_, rfl⟩
  rw [← hs] at hA3 OK hlen A2 X2
  have A3 := Lib.hid (A2.out.below hb3)
  have X3 := Lib.hid (X2.out.below hb3)
  have T3 := Lib.hid hA3
  have LEN := Lib.hid (show s.L.length ≤ 40 ∧ s.N.length ≤ 40 from ⟨hlen, by have := ok_len OK.out; omega⟩)
  have cS1 := Lib.hid (lzSame A3.out X3.out OK.out (by omega))
  clear hb3 hs hA3 hX3 hlen
  go_wp2_with fail
  (with_reducible refine cS1.out.mono ?_)
  rintro e w4 ⟨rfl, hb4⟩
  have cS2 := Lib.hid (lzSame (T3.out.below hb4) (X3.out.below hb4) OK.out (by have := LEN.out; omega))
  have A4 := Lib.hid (A3.out.below hb4)
  have B4 := Lib.hid (B3.out.trans (hb4.mono B3.out.size))
  clear hb4
  go_wp2_with fail
  (with_reducible refine cS2.out.mono ?_)
  rintro e w5 ⟨rfl, hb5⟩
  have A5 := Lib.hid (A4.out.below hb5)
  have B5 := Lib.hid (B4.out.trans (hb5.mono B4.out.size))
  have cK := Lib.hid (A5.out.keys (by have := LEN.out; omega))
  clear hb5
  go_wp2_with fail
  (with_reducible refine cK.out.mono ?_)
  rintro e w6 ⟨v6, rfl, ho6, hb6⟩
  have A6 := Lib.hid (A5.out.below hb6)
  have B6 := Lib.hid (B5.out.trans (hb6.mono B5.out.size))
  have cR := mRebuild A6.out OK.out (by omega) v6 s.N (Nums.of_own ho6) (by have := LEN.out; omega)
  obtain ⟨p6, n6, k6, rfl⟩ := own_form ho6
  have RN := Lib.hid (reb_all OK.out)
  have RT := Lib.hid (show TreeM (rebM 2 s s.N) from reb_tree 2 s _ _)
  have RO := Lib.hid (show OkM 2 (rebM 2 s s.N) from rebN_ok 2 s _ _)
  obtain ⟨r, hr⟩ : ∃ r, r = rebM 2 s s.N := ⟨_, rfl⟩
  rw [← hr] at cR RN RT RO
  have cR := Lib.hid cR
  have RL := Lib.hid (show r.N.length ≤ 100000 from by rw [RN.out]; have := LEN.out; omega)
  clear ho6 hb6 hr
  go_wp2_with fail
  (with_reducible refine cR.out.mono ?_)
  rintro e w7 ⟨z7, p7, m7, mv7, Q7, VL7, rfl, hA7, hb7⟩
  have T7 := Lib.hid hA7
  have A7 := Lib.hid (A6.out.below hb7)
  have B7 := Lib.hid (B6.out.trans (hb7.mono B6.out.size))
  have cK7 := T7.out.keys RL.out
  rw [RN.out] at cK7
  have cK7 := Lib.hid cK7
  clear hA7 hb7
  go_wp2_with fail
  (with_reducible refine cK7.out.mono ?_)
  rintro e w8 ⟨v8, rfl, ho8, hb8⟩
  obtain ⟨p8, n8, k8, rfl⟩ := own_form ho8
  have N8 := Lib.hid (Nums.of_own ho8)
  have T8 := Lib.hid (T7.out.below hb8)
  have A8 := Lib.hid (A7.out.below hb8)
  have B8 := Lib.hid (B7.out.trans (hb8.mono B7.out.size))
  have cK8 := Lib.hid (A8.out.keys (by have := LEN.out; omega))
  clear ho8 hb8
  go_wp2_with fail
  (with_reducible refine cK8.out.mono ?_)
  rintro e w9 ⟨v9, rfl, ho9, hb9⟩
  obtain ⟨p9, n9, k9, rfl⟩ := own_form ho9
  have cQ := sameNums s.N s.N _ _ w9 (N8.out.below hb9) (Nums.of_own ho9)
  rw [decide_eq_true (Eq.refl s.N)] at cQ
  have cQ := Lib.hid cQ
  have T9 := Lib.hid (T8.out.below hb9)
  have A9 := Lib.hid (A8.out.below hb9)
  have B9 := Lib.hid (B8.out.trans (hb9.mono B8.out.size))
  clear ho9 hb9
  go_wp2_with fail
  (with_reducible refine cQ.out.mono ?_)
  rintro e w10 ⟨rfl, hd10⟩
  have T10 := Lib.hid (T9.out.below hd10.below)
  have A10 := Lib.hid (A9.out.below hd10.below)
  have B10 := Lib.hid (B9.out.trans (hd10.below.mono B9.out.size))
  have cE := mEntry T10.out rfl RO.out
  clear hd10
  have hNN := ok_len OK.out
  by_cases hL0 : s.L = []
  · have hrL : r.L = [] := by
      have h1 := ok_len RO.out
      rw [RN.out, hNN, hL0] at h1
      exact List.eq_nil_of_length_eq_zero h1.symm
    rw [hrL] at cE
    have cE := Lib.hid cE
    have cN := A10.out.length
    rw [show s.N.length = 0 from by rw [hNN, hL0]; rfl] at cN
    have cN := Lib.hid cN
    clear hL0 hrL hNN
    go_wp2_with fail
    (with_reducible refine cE.out.mono ?_)
    rintro e w11 ⟨rfl, rfl⟩
    go_wp2_with fail
    (with_reducible refine cN.out.mono ?_)
    rintro e w11 ⟨rfl, rfl⟩
    go_wp2_with fail
    go_ret
    exact ⟨rfl, B10.out⟩
  · have hrL : r.L ≠ [] := fun e => by
      have h1 := ok_len RO.out
      rw [RN.out, hNN, e] at h1
      exact hL0 (List.eq_nil_of_length_eq_zero h1)
    rw [show (!r.L.isEmpty) = true from by cases hs : r.L with
          | nil => exact absurd hs hrL
          | cons a l => rfl] at cE
    have cE := Lib.hid cE
    have cRe := T10.out.reach RL.out (entryZ r.L)
    rw [reach_all RO.out RT.out hrL, RN.out] at cRe
    have cRe := Lib.hid cRe
    obtain ⟨en, hen⟩ : ∃ e, e = entryZ r.L := ⟨_, rfl⟩
    rw [← hen] at cE cRe
    clear hL0 hrL hNN hen
    go_wp2_with fail
    (with_reducible refine cE.out.mono ?_)
    rintro e w11 ⟨rfl, rfl⟩
    go_wp2_with fail
    (with_reducible refine cRe.out.mono ?_)
    rintro e w12 ⟨v12, rfl, ho12, hb12⟩
    obtain ⟨p12, n12, k12, rfl⟩ := own_form ho12
    have N12 := Lib.hid (Nums.of_own ho12)
    have A12 := Lib.hid (A10.out.below hb12)
    have B12 := Lib.hid (B10.out.trans (hb12.mono B10.out.size))
    have cK12 := Lib.hid (A12.out.keys (by have := LEN.out; omega))
    clear ho12 hb12
    go_wp2_with fail
    (with_reducible refine cK12.out.mono ?_)
    rintro e w13 ⟨v13, rfl, ho13, hb13⟩
    obtain ⟨p13, n13, k13, rfl⟩ := own_form ho13
    have cQ := sameNums s.N s.N _ _ w13 (N12.out.below hb13) (Nums.of_own ho13)
    rw [decide_eq_true (Eq.refl s.N)] at cQ
    have cQ := Lib.hid cQ
    have B13 := Lib.hid (B12.out.trans (hb13.mono B12.out.size))
    clear ho13 hb13
    go_wp2_with fail
    (with_reducible refine cQ.out.mono ?_)
    rintro e w14 ⟨rfl, hd14⟩
    have B14 := Lib.hid (B13.out.trans (hd14.below.mono B13.out.size))
    clear hd14
    go_wp2_with fail
    go_ret
    exact ⟨rfl, B14.out⟩

end Go.Proofs.YtpjbkaibgajpcaaGreat
