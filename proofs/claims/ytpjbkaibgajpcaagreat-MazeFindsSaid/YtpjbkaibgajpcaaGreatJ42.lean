/- maze's laws: both mazes are the same. -/
import Derived.Test.YtpjbkaibgajpcaaGreatJ37
import Derived.Test.YtpjbkaibgajpcaaGreatJ40
import Derived.Test.YtpjbkaibgajpcaaGreatJ41
import Derived.Test.YtpjbkaibgajpcaaGreatJ32
namespace Go.Proofs.YtpjbkaibgajpcaaGreat
open Go.RowKit Go.ChangeMaps
set_option maxRecDepth 20000

set_option maxRecDepth 100000 in
set_option maxHeartbeats 16000000 in
theorem lzSame {B B' : Nat} {w : World} {z p m mv x c : Nat} {Q : Gr} {dim : Int} {VL : List (Int × Value)} {vn ve lv : Value} {rs : List Hv} {s : Mz} (h : MzAt B w z p m mv Q dim (entryZ s.L) VL s) (r : RzAt B' w x c dim vn ve lv rs s) (ok : OkM dim s) (hL : s.L.length ≤ 900) :
    Calls Tryz.prog 24 #[.pointer (some ⟨z, 0, none⟩), .pointer (some ⟨x, 0, none⟩)] w fun e w' => e = .returned (.bool true) ∧ Below w.heap.size w w' := by
  have hNL := ok_len ok
  have hEf := ok.few
  have hlr : rs.length = s.L.length := r.held.len
  obtain ⟨lp, ln, lc, hlv⟩ := own_form r.row
  subst hlv
  obtain rfl : ln = rs.length := own_len r.row
  obtain ⟨np, nn, nc, hvn⟩ := own_form r.doc.nodes
  subst hvn
  obtain rfl : nn = s.N.length := own_len r.doc.nodes
  have hE4 : s.E.length ≤ 400000 := by omega
  have hN4 : s.N.length ≤ 100000 := by omega
  obtain ⟨W1, hW1⟩ : ∃ W1, W1 = w.drew := ⟨_, rfl⟩
  have hb1 : Below w.heap.size w W1 := by rw [hW1]; exact (Below.refl _ _).drew
  have H := Lib.hid (h.below hb1)
  have R := Lib.hid (r.below hb1)
  have I1 := Lib.hid (show W1.cell? ⟨x, 1, none⟩ = some (.pointer (some ⟨c, 0, none⟩)) ∧ W1.cell? ⟨c, 0, none⟩ = some (.slice np s.N.length nc) ∧ W1.cell? ⟨x, 2, none⟩ = some (.slice lp rs.length lc) from ⟨cellsB (r.below hb1).cell 1, (r.below hb1).doc.get0, cellsB (r.below hb1).cell 2⟩)
  have NN := Lib.hid (Nums.of_own (r.below hb1).doc.nodes)
  have B1 := Lib.hid hb1
  have HW := Lib.hid hW1
  have OK := Lib.hid ok
  have NLR := Lib.hid (hNL.trans hlr.symm)
  obtain ⟨nN, hnN⟩ : ∃ n, n = s.N.length := ⟨_, rfl⟩
  obtain ⟨nR, hnR⟩ : ∃ n, n = rs.length := ⟨_, rfl⟩
  have hnR9 : nR ≤ 900 := by omega
  have cK := Lib.hid (H.out.keys hN4)
  have cL := Lib.hid (fun W (hW : Below W1.heap.size W1 W) => (H.out.below hW).length)
  rw [← hnN] at cL I1 NN NLR
  rw [← hnR] at I1 NLR
  obtain rfl : nN = nR := NLR.out
  have EQN := Lib.hid hnN
  have EQR := Lib.hid hnR
  have HLR := Lib.hid hlr
  clear h r ok hW1 hb1 hnN hnR hNL hlr
  go_enter Tryz.func24, Tryz.ntmps24
  go_upto_region 1 with fail
  refine region_go (fun w' => w'.cell? ⟨x, 1, none⟩ = some (.pointer (some ⟨c, 0, none⟩)) ∧ w'.cell? ⟨c, 0, none⟩ = some (.slice np nN nc) ∧ w'.cell? ⟨x, 2, none⟩ = some (.slice lp nN lc)) (by kernel_rfl) ?hS0 (fun hH => ?_)
  case hS0 =>
    rw [← HW.out]; exact I1.out
  rw [← HW.out] at hH ⊢
  refine kY 0 hH ?_
  repeat simp only [Act.put, uA1, uB1, uC1]
  refine kY 2 hH ?_
  repeat simp only [Act.put, uA1, uB1, uC1]
  refine kY 3 hH ?_
  repeat simp only [Act.put, uA1, uB1, uC1]
  refine kY 4 hH ?_
  repeat simp only [Act.put, uA1, uB1, uC1]
  refine kY 5 hH ?_
  repeat simp only [Act.put, uA1, uB1, uC1]
  refine kY 6 hH ?_
  repeat simp only [Act.put, uA1, uB1, uC1]
  refine kY 7 hH ?_
  repeat simp only [Act.put, uA1, uB1, uC1]
  refine kY 8 hH ?_
  repeat simp only [Act.put, uA1, uB1, uC1]
  refine spk 1 rfl (by decide +kernel) (by rfl) (fun K' hK => ?_)
  go_simp
  with_reducible refine cK.out.mono ?_
  rintro e w2 ⟨v2, rfl, ho2, hb2⟩
  obtain ⟨kp, kc, rfl, -, -, -, -⟩ := (Nums.of_own ho2).slice
  have cS := Lib.hid (sameNums s.N s.N _ _ w2 (Nums.of_own ho2) (NN.out.below hb2))
  rw [decide_eq_true (Eq.refl s.N)] at cS
  have EK := Lib.hid EQN.out
  rw [← EQN.out] at cS ⊢
  try dsimp only
  refine hK.out _ _ ?hS (fun hH' => ?_)
  case hS =>
    exact ⟨below_cells hb2 hH.1, below_cells hb2 hH.2.1, below_cells hb2 hH.2.2⟩
  clear hK K' hH; have hH := hH'; clear hH'; repeat simp only [Act.put, uA1, uB1, uC1]
  refine spk 9 rfl (by decide +kernel) (by rfl) (fun K' hK => ?_)
  go_simp
  with_reducible refine cS.out.mono ?_
  rintro e w3 ⟨rfl, hd3⟩
  have B3 := Lib.hid (hb2.trans (hd3.below.mono hb2.size))
  try dsimp only
  refine hK.out _ _ ?hS (fun hH' => ?_)
  case hS =>
    exact ⟨below_cells hd3.below hH.1, below_cells hd3.below hH.2.1, below_cells hd3.below hH.2.2⟩
  clear hK K' hH; have hH := hH'; clear hH'; repeat simp only [Act.put, uA1, uB1, uC1]
  refine kY 10 hH ?_
  repeat simp only [Act.put, uA1, uB1, uC1]
  refine kY 11 hH ?_
  repeat simp only [Act.put, uA1, uB1, uC1]
  refine kY 12 hH ?_
  repeat simp only [Act.put, uA1, uB1, uC1]
  refine kY 14 hH ?_
  repeat simp only [Act.put, uA1, uB1, uC1]
  refine kY 15 hH ?_
  repeat simp only [Act.put, uA1, uB1, uC1]
  refine kY 16 hH ?_
  repeat simp only [Act.put, uA1, uB1, uC1]
  refine kY 17 hH ?_
  repeat simp only [Act.put, uA1, uB1, uC1]
  refine kY 18 hH ?_
  repeat simp only [Act.put, uA1, uB1, uC1]
  refine spk 13 rfl (by decide +kernel) (by rfl) (fun K' hK => ?_)
  go_simp
  with_reducible refine (cL.out _ B3.out).mono ?_
  rintro e w4 ⟨rfl, rfl⟩
  try dsimp only
  refine hK.out _ _ ?hS (fun hH' => ?_)
  case hS =>
    exact hH
  clear hK K' hH; have hH := hH'; clear hH'; repeat simp only [Act.put, uA1, uB1, uC1]
  refine kY 19 hH ?_
  repeat simp only [Act.put, uA1, uB1, uC1]
  refine kY 20 hH ?_
  repeat simp only [Act.put, uA1, uB1, uC1]
  refine wpAnyH_done (by decide +kernel) ?_ _
  clear hH hb2 ho2 hd3
  have H4 := Lib.hid (H.out.below B3.out)
  have R4 := Lib.hid (R.out.below B3.out)
  have x1 := cellsB R4.out.cell 1
  have v1 := R4.out.doc.get0
  rw [← EQN.out] at v1
  have hn63 : nN ≤ 9223372036854775807 := by omega
  go_wp2_with fail
  go_loopg [40] nN (fun q' i wr => ∃ j : Nat, q' = nN - j ∧ j ≤ nN ∧ i = .int .i64 j ∧ Below W1.heap.size W1 wr)
  case atStart => exact ⟨0, rfl, by omega, rfl, B3.out⟩
  case round =>
    obtain ⟨j, rfl, hj, rfl, hbr⟩ := hrel
    by_cases hlt : j < nN
    · have hjn : j < s.N.length := by have := EQN.out; omega
      obtain ⟨b5, o5, rfl, e5⟩ := (NN.out.below hbr).elem hjn
      have hmem : s.N[j] ∈ s.N := List.getElem_mem hjn
      obtain ⟨k, hk⟩ : ∃ k, k = s.N[j] := ⟨_, rfl⟩
      rw [← hk] at e5 hmem
      have HR := Lib.hid (H.out.below hbr)
      have cV := Lib.hid (mVec HR.out OK.out k)
      rw [decide_eq_true hmem] at cV
      have BR := Lib.hid hbr
      have KN := Lib.hid hmem
      clear hk hmem hbr
      go_wp2_with fail
      (with_reducible refine cV.out.mono ?_)
      rintro e w5 ⟨v5, rfl, ho5, hb5⟩
      obtain ⟨vq, vm, vc, rfl⟩ := own_form ho5
      obtain ⟨W6, hW6⟩ : ∃ W6, W6 = w5.drew := ⟨_, rfl⟩
      have hb6 : Below w5.heap.size w5 W6 := by rw [hW6]; exact (Below.refl _ _).drew
      have B6 := Lib.hid (BR.out.trans ((hb5.trans (hb6.mono hb5.size)).mono BR.out.size))
      have R6 := Lib.hid (R.out.below B6.out)
      have V6 := Lib.hid (Nums.of_own (own_below ho5 hb6))
      have I6 := Lib.hid (cellsB R6.out.cell 1)
      have HW6 := Lib.hid hW6
      have cNe := Lib.hid (fun W (hW : Below W1.heap.size W1 W) => (H.out.below hW).near hN4 k)
      have cSo := Lib.hid (fun W (hW : Below W1.heap.size W1 W) => (H.out.below hW).soft hN4 k)
      have cHa := Lib.hid (fun W (hW : Below W1.heap.size W1 W) => (H.out.below hW).has k)
      have dNe := Lib.hid (fun (sf : Bool) W (hW : Below W1.heap.size W1 W) => dNear W B' c s.N s.E (.slice (some ⟨b5, o5, none⟩) s.N.length nc) ve k sf (R.out.below hW).doc hE4)
      have cVe := Lib.hid (fun W (hW : Below W1.heap.size W1 W) => rVec (R.out.below hW) k)
      clear hb5 hb6 hW6 ho5
      go_upto_region 7 with fail
      refine region_goH (fun w' => w'.cell? ⟨x, 1, none⟩ = some (.pointer (some ⟨c, 0, none⟩))) 42 (by kernel_rfl) rfl ?hS0 (fun O hO hH => ?_)
      case hS0 =>
        rw [← HW6.out]; exact I6.out
      rw [← HW6.out] at hH ⊢
      refine kYH 0 hO hH ?_
      repeat simp only [Act.put, uA1, uB1, uC1]
      refine kYH 1 hO hH ?_
      repeat simp only [Act.put, uA1, uB1, uC1]
      refine kYH 3 hO hH ?_
      repeat simp only [Act.put, uA1, uB1, uC1]
      refine kYH 4 hO hH ?_
      repeat simp only [Act.put, uA1, uB1, uC1]
      refine kYH 5 hO hH ?_
      repeat simp only [Act.put, uA1, uB1, uC1]
      refine kYH 6 hO hH ?_
      repeat simp only [Act.put, uA1, uB1, uC1]
      refine kYH 7 hO hH ?_
      repeat simp only [Act.put, uA1, uB1, uC1]
      refine spkH 2 hO rfl (by decide +kernel) (by rfl) (fun K' hK => ?_)
      go_simp
      with_reducible refine (cNe.out _ B6.out).mono ?_
      rintro e w7 ⟨v7, rfl, ho7, hb7⟩
      obtain ⟨p7, c7, rfl, -, -, -, -⟩ := (Nums.of_own ho7).slice
      have B7 := Lib.hid (B6.out.trans (hb7.mono B6.out.size))
      have V7 := Lib.hid (V6.out.below hb7)
      have O7 := Lib.hid (Nums.of_own ho7)
      try dsimp only
      refine hK.out _ _ ?hS (fun hH' => ?_)
      case hS =>
        exact below_cells hb7 hH
      clear hK K' hH; have hH := hH'; clear hH'; repeat simp only [Act.put, uA1, uB1, uC1]
      refine spkH 8 hO rfl (by decide +kernel) (by rfl) (fun K' hK => ?_)
      go_simp
      with_reducible refine (dNe.out _ _ B7.out).mono ?_
      rintro e w8 ⟨v8, rfl, ho8, hb8⟩
      obtain ⟨p8, c8, rfl, -, -, -, -⟩ := (Nums.of_own ho8).slice
      have B8 := Lib.hid (B7.out.trans (hb8.mono B7.out.size))
      have V8 := Lib.hid (V7.out.below hb8)
      have cS1 := sameNums _ _ _ _ w8 (O7.out.below hb8) (Nums.of_own ho8)
      rw [decide_eq_true (Eq.refl (nearD s.E k false))] at cS1
      have cS1 := Lib.hid cS1
      try dsimp only
      refine hK.out _ _ ?hS (fun hH' => ?_)
      case hS =>
        exact below_cells hb8 hH
      clear hK K' hH; have hH := hH'; clear hH'; repeat simp only [Act.put, uA1, uB1, uC1]
      refine spkH 9 hO rfl (by decide +kernel) (by rfl) (fun K' hK => ?_)
      go_simp
      with_reducible refine cS1.out.mono ?_
      rintro e w9 ⟨rfl, hd9⟩
      have B9 := Lib.hid (B8.out.trans (hd9.below.mono B8.out.size))
      have V9 := Lib.hid (V8.out.below hd9.below)
      try dsimp only
      refine hK.out _ _ ?hS (fun hH' => ?_)
      case hS =>
        exact below_cells hd9.below hH
      clear hK K' hH; have hH := hH'; clear hH'; repeat simp only [Act.put, uA1, uB1, uC1]
      refine kYH 10 hO hH ?_
      repeat simp only [Act.put, uA1, uB1, uC1]
      refine kYH 11 hO hH ?_
      repeat simp only [Act.put, uA1, uB1, uC1]
      refine kYH 12 hO hH ?_
      repeat simp only [Act.put, uA1, uB1, uC1]
      refine kYH 13 hO hH ?_
      repeat simp only [Act.put, uA1, uB1, uC1]
      refine kYH 15 hO hH ?_
      repeat simp only [Act.put, uA1, uB1, uC1]
      refine kYH 16 hO hH ?_
      repeat simp only [Act.put, uA1, uB1, uC1]
      refine kYH 17 hO hH ?_
      repeat simp only [Act.put, uA1, uB1, uC1]
      refine kYH 18 hO hH ?_
      repeat simp only [Act.put, uA1, uB1, uC1]
      refine kYH 19 hO hH ?_
      repeat simp only [Act.put, uA1, uB1, uC1]
      refine spkH 14 hO rfl (by decide +kernel) (by rfl) (fun K' hK => ?_)
      go_simp
      with_reducible refine (cSo.out _ B9.out).mono ?_
      rintro e w10 ⟨v10, rfl, ho10, hb10⟩
      obtain ⟨p10, c10, rfl, -, -, -, -⟩ := (Nums.of_own ho10).slice
      have B10 := Lib.hid (B9.out.trans (hb10.mono B9.out.size))
      have V10 := Lib.hid (V9.out.below hb10)
      have O10 := Lib.hid (Nums.of_own ho10)
      try dsimp only
      refine hK.out _ _ ?hS (fun hH' => ?_)
      case hS =>
        exact below_cells hb10 hH
      clear hK K' hH; have hH := hH'; clear hH'; repeat simp only [Act.put, uA1, uB1, uC1]
      refine spkH 20 hO rfl (by decide +kernel) (by rfl) (fun K' hK => ?_)
      go_simp
      with_reducible refine (dNe.out _ _ B10.out).mono ?_
      rintro e w11 ⟨v11, rfl, ho11, hb11⟩
      obtain ⟨p11, c11, rfl, -, -, -, -⟩ := (Nums.of_own ho11).slice
      have B11 := Lib.hid (B10.out.trans (hb11.mono B10.out.size))
      have V11 := Lib.hid (V10.out.below hb11)
      have cS2 := sameNums _ _ _ _ w11 (O10.out.below hb11) (Nums.of_own ho11)
      rw [decide_eq_true (Eq.refl (nearD s.E k true))] at cS2
      have cS2 := Lib.hid cS2
      try dsimp only
      refine hK.out _ _ ?hS (fun hH' => ?_)
      case hS =>
        exact below_cells hb11 hH
      clear hK K' hH; have hH := hH'; clear hH'; repeat simp only [Act.put, uA1, uB1, uC1]
      refine spkH 21 hO rfl (by decide +kernel) (by rfl) (fun K' hK => ?_)
      go_simp
      with_reducible refine cS2.out.mono ?_
      rintro e w12 ⟨rfl, hd12⟩
      have B12 := Lib.hid (B11.out.trans (hd12.below.mono B11.out.size))
      have V12 := Lib.hid (V11.out.below hd12.below)
      try dsimp only
      refine hK.out _ _ ?hS (fun hH' => ?_)
      case hS =>
        exact below_cells hd12.below hH
      clear hK K' hH; have hH := hH'; clear hH'; repeat simp only [Act.put, uA1, uB1, uC1]
      refine kYH 22 hO hH ?_
      repeat simp only [Act.put, uA1, uB1, uC1]
      refine kYH 23 hO hH ?_
      repeat simp only [Act.put, uA1, uB1, uC1]
      refine kYH 24 hO hH ?_
      repeat simp only [Act.put, uA1, uB1, uC1]
      refine kYH 25 hO hH ?_
      repeat simp only [Act.put, uA1, uB1, uC1]
      refine kYH 26 hO hH ?_
      repeat simp only [Act.put, uA1, uB1, uC1]
      refine kYH 27 hO hH ?_
      repeat simp only [Act.put, uA1, uB1, uC1]
      refine kYH 28 hO hH ?_
      repeat simp only [Act.put, uA1, uB1, uC1]
      refine kYH 29 hO hH ?_
      repeat simp only [Act.put, uA1, uB1, uC1]
      refine kYH 30 hO hH ?_
      repeat simp only [Act.put, uA1, uB1, uC1]
      refine kYH 31 hO hH ?_
      repeat simp only [Act.put, uA1, uB1, uC1]
      refine spkH 32 hO rfl (by decide +kernel) (by rfl) (fun K' hK => ?_)
      go_simp
      with_reducible refine (cVe.out _ B12.out).mono ?_
      rintro e w13 ⟨v13, rfl, hu13, -, hb13⟩
      obtain ⟨p13, c13, rfl, -, -, -, -⟩ := hu13.slice
      have B13 := Lib.hid (B12.out.trans (hb13.mono B12.out.size))
      have cS3 := sameVecQ _ _ _ _ w13 (V12.out.below hb13) hu13
      rw [decide_eq_true (Eq.refl (vecOf s.L k))] at cS3
      have cS3 := Lib.hid cS3
      try dsimp only
      refine hK.out _ _ ?hS (fun hH' => ?_)
      case hS =>
        exact below_cells hb13 hH
      clear hK K' hH; have hH := hH'; clear hH'; repeat simp only [Act.put, uA1, uB1, uC1]
      refine spkH 33 hO rfl (by decide +kernel) (by rfl) (fun K' hK => ?_)
      go_simp
      with_reducible refine cS3.out.mono ?_
      rintro e w14 ⟨rfl, hd14⟩
      have B14 := Lib.hid (B13.out.trans (hd14.below.mono B13.out.size))
      try dsimp only
      refine hK.out _ _ ?hS (fun hH' => ?_)
      case hS =>
        exact below_cells hd14.below hH
      clear hK K' hH; have hH := hH'; clear hH'; repeat simp only [Act.put, uA1, uB1, uC1]
      refine kYH 34 hO hH ?_
      repeat simp only [Act.put, uA1, uB1, uC1]
      refine kYH 35 hO hH ?_
      repeat simp only [Act.put, uA1, uB1, uC1]
      refine kYH 36 hO hH ?_
      repeat simp only [Act.put, uA1, uB1, uC1]
      refine kYH 37 hO hH ?_
      repeat simp only [Act.put, uA1, uB1, uC1]
      refine kYH 38 hO hH ?_
      repeat simp only [Act.put, uA1, uB1, uC1]
      refine spkH 39 hO rfl (by decide +kernel) (by rfl) (fun K' hK => ?_)
      go_simp
      with_reducible refine (cHa.out _ B14.out).mono ?_
      rw [decide_eq_true KN.out]
      rintro e w15 ⟨rfl, rfl⟩
      try dsimp only
      refine hK.out _ _ ?hS (fun hH' => ?_)
      case hS =>
        exact hH
      clear hK K' hH; have hH := hH'; clear hH'; repeat simp only [Act.put, uA1, uB1, uC1]
      refine kYH 40 hO hH ?_
      repeat simp only [Act.put, uA1, uB1, uC1]
      refine kYH 41 hO hH ?_
      repeat simp only [Act.put, uA1, uB1, uC1]
      refine doneH hO (by decide +kernel) ?_
      clear hO
      clear hH hb7 ho7 hb8 ho8 hd9 hb10 ho10 hb11 ho11 hd12 hb13 hu13 hd14
      go_wp2_with fail
      go_roundg (nN - (j + 1))
      case measure => omega
      case rel => exact ⟨j + 1, rfl, by omega, by go_num, B14.out⟩
    · have HR := Lib.hid (H.out.below hbr)
      have RR := Lib.hid (R.out.below hbr)
      have cE := Lib.hid (mEntry HR.out rfl OK.out)
      have BR := Lib.hid (B1.out.trans (hbr.mono B1.out.size))
      have x2 := cellsB RR.out.cell 2
      have EQR2 := EQR.out
      rw [← EQR2] at x2
      clear hbr EQR2
      by_cases hL0 : s.L = []
      · have hz : nN = 0 := by have h1 := EQR.out; have h2 := HLR.out; rw [h2, hL0] at h1; exact h1
        rw [show entryZ s.L = 0 from by rw [hL0]; rfl, show (!s.L.isEmpty) = false from by rw [hL0]; rfl] at cE
        have x2' : wr.cell? ⟨x, 2, none⟩ = some (.slice lp 0 lc) := by rw [x2, hz]; rfl
        clear hL0 x2
        subst hz
        go_wp2_with fail
        (with_reducible refine cE.out.mono ?_)
        rintro e w5 ⟨rfl, rfl⟩
        go_wp2_with fail
        go_ret
        exact ⟨rfl, BR.out⟩
      · have hpos : 0 < nN := by have h1 := EQR.out; have h2 := HLR.out; rw [h1, h2]; exact List.length_pos_iff.2 hL0
        have hposI : (0 : Int) < nN := by omega
        have hrl : 0 < rs.length := by have := EQR.out; omega
        obtain ⟨g0, cg, hv0, -, -⟩ := RR.out.row.form hrl
        obtain ⟨hlp, -, -⟩ := Value.slice.inj hv0
        have e0 := own_cell RR.out.row (g := g0) (by rw [hlp]; rfl) (flat3_get rs 0 hrl).1
        simp only [Nat.zero_mul] at e0
        rw [(RR.out.held.own 0 hrl (by rw [← HLR.out]; exact hrl)).1.1, ← entry_atR (by rw [← HLR.out]; exact hrl)] at e0
        rw [show (!s.L.isEmpty) = true from by cases hs : s.L with
          | nil => exact absurd hs hL0
          | cons a l => rfl] at cE
        obtain ⟨en, hen⟩ : ∃ e, e = entryZ s.L := ⟨_, rfl⟩
        rw [← hen] at cE e0
        rw [hlp] at x2
        have hd0 : decide (0 < nN) = true := decide_eq_true hpos
        clear hL0 hv0 hlp hen
        go_wp2_with fail
        (with_reducible refine cE.out.mono ?_)
        rintro e w5 ⟨rfl, rfl⟩
        go_wp2_with fail
        go_ret
        exact ⟨rfl, BR.out⟩

end Go.Proofs.YtpjbkaibgajpcaaGreat
