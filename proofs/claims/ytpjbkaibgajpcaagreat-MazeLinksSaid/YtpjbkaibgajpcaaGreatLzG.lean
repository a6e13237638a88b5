/- maze's laws: MazeLinks. -/
import Derived.Test.YtpjbkaibgajpcaaGreatMzP
import Derived.Test.YtpjbkaibgajpcaaGreatJ09
namespace Go.Proofs.YtpjbkaibgajpcaaGreat
open Go.RowKit Go.ChangeMaps
set_option maxRecDepth 20000

theorem row_cellM {w : World} {B n c : Nat} {p : Option Addr} {l : List Int} (h : w.ownsRow B 36 1 (.slice p n c) n (l.map (Value.int .u64))) {j : Nat} (hj : j < l.length) : ∃ g, p = some ⟨g, 0, none⟩ ∧ w.cell? ⟨g, j, none⟩ = some (.int .u64 l[j]) := by
  have hn : l.length = n := by simpa using h.1
  subst hn
  obtain ⟨g, cap', hve, -, hgl⟩ := h.form (by omega)
  obtain ⟨rfl, -, rfl⟩ := Value.slice.inj hve
  exact ⟨g, rfl, by rw [World.ownsRow.cellAt h j (by omega), List.getElem?_map, List.getElem?_eq_getElem hj]; rfl⟩

theorem sumZ_le (N : List Int) (f : Int → Nat) (b : Nat) (h : ∀ k, f k ≤ b) : sumZ N f ≤ b * N.length := by
  unfold sumZ
  induction N with
  | nil => simp
  | cons k N ih =>
    have h1 := h k
    rw [List.map_cons, List.sum_cons, List.length_cons, Nat.mul_add]
    omega


set_option maxRecDepth 100000 in
set_option maxHeartbeats 16000000 in
theorem mazeLinks (w : World) (l : List (Int × List Int)) (nv : Value) (hR : Recs w nv l) :
    Law 4 #[nv] w := by
  have cA := Lib.hid (awake11 w)
  have LR := Lib.hid hR
  clear hR
  go_enter Tryz.func4, Tryz.ntmps4
  go_wp2_with fail
  (with_reducible refine cA.out.mono ?_)
  rintro e w1 ⟨rfl, hb1⟩
  have cL := lzLay w1 2 l nv (LR.out.below hb1) 60 (by omega)
  rw [show ((60 : Nat) : Int) = 60 from rfl] at cL
  have cL := Lib.hid cL
  have B1 := Lib.hid hb1
  clear hb1
  go_wp2_with fail
  (with_reducible refine cL.out.mono ?_)
  rintro e w2 (⟨hno, -⟩ | ⟨-, z, p, m, mv, Q, VL, B', x, c, vn, ve, xlv, rs, rfl, hA, hX, hb2⟩)
  · exact absurd ⟨by decide, by decide⟩ hno
  have B2 := Lib.hid (B1.out.trans (hb2.mono B1.out.size))
  have OK := Lib.hid (layM_ok 2 l 60)
  have hlen := layM_len 2 l 60
  obtain ⟨s, hs⟩ : ∃ s, s = layM 2 l 60 := ⟨_, rfl⟩
  rw [← hs] at hA hX OK hlen
  have A2 := Lib.hid hA
  have X2 := Lib.hid hX
  have LM := Lib.hid hs
  clear hb2 hs hA hX
  have TR := Lib.hid (show TreeM s from by rw [LM.out]; exact layM_tree 2 l 60)
  obtain ⟨lp, ln, lc, rfl⟩ := own_form X2.out.row
  obtain rfl : ln = rs.length := own_len X2.out.row
  obtain ⟨nN, hnN⟩ : ∃ n, n = s.N.length := ⟨_, rfl⟩
  obtain ⟨nR, hnR⟩ : ∃ n, n = rs.length := ⟨_, rfl⟩
  have hNL := ok_len OK.out
  have hRL : rs.length = s.L.length := X2.out.held.len
  have hn60 : nN ≤ 60 := by omega
  obtain rfl : nR = nN := by omega
  have EQN := Lib.hid hnN
  have EQR := Lib.hid hnR
  have EQL := Lib.hid (hnN.trans hNL)
  have cK := Lib.hid (A2.out.keys (by omega))
  clear hnN hnR hNL hRL hlen
  go_wp2_with fail
  (with_reducible refine cK.out.mono ?_)
  rintro e w3 ⟨v3, rfl, h3, hb3⟩
  rw [← EQN.out] at h3
  obtain ⟨p3, n3, k3, rfl⟩ := own_form h3
  obtain rfl : n3 = nR := own_len h3
  have A3 := Lib.hid (A2.out.below hb3)
  have X3 := Lib.hid (X2.out.below hb3)
  have BB3 := Lib.hid (B2.out.trans (hb3.mono B2.out.size))
  have R3 := Lib.hid h3
  have hn63 : n3 ≤ 9223372036854775807 := by omega
  clear h3 hb3
  go_wp2_with fail
  go_loopg [6, 22] n3 (fun q' nd i wr => ∃ j : Nat, q' = n3 - j ∧ j ≤ n3 ∧ i = .int .i64 j ∧ nd = .int .i64 ((sumZ (s.N.take j) (fun k => (nearD s.E k false).length) : Int) - (sumZ (s.N.take j) (fun k => (nearD s.E k true).length) : Int)) ∧ Below w3.heap.size w3 wr)
  case atStart => exact ⟨0, rfl, by omega, rfl, rfl, Below.refl _ _⟩
  case round =>
    obtain ⟨j, rfl, hj, rfl, rfl, hbr⟩ := hrel
    have FEW := Lib.hid (show ∀ k sf, (nearD s.E k sf).length ≤ 240 from fun k sf => by
      have h1 := nearD_len s.E k sf
      have h2 := OK.out.few
      have h3 := EQL.out
      omega)
    have bnd : ∀ (sf : Bool), sumZ (s.N.take j) (fun k => (nearD s.E k sf).length) ≤ 240 * 60 := fun sf => by
      have h1 := sumZ_le (s.N.take j) (fun k => (nearD s.E k sf).length) 240 fun k => FEW.out k sf
      rw [List.length_take] at h1
      have h3 := EQN.out
      have : min j s.N.length ≤ 60 := by omega
      have := Nat.mul_le_mul_left 240 this
      omega
    have b1 := bnd false
    have b2 := bnd true
    clear bnd
    by_cases hlt : j < n3
    · have hjn : j < s.N.length := by have := EQN.out; omega
      obtain ⟨g, rfl, e0⟩ := row_cellM (own_below R3.out hbr) hjn
      have SS := Lib.hid (And.intro (sumZ_snoc s.N (fun k => (nearD s.E k false).length) j hjn) (sumZ_snoc s.N (fun k => (nearD s.E k true).length) j hjn))
      obtain ⟨k, hk⟩ : ∃ k, k = s.N[j] := ⟨_, rfl⟩
      rw [← hk] at e0 SS
      obtain ⟨A, hA⟩ : ∃ A, A = sumZ (s.N.take j) (fun k => (nearD s.E k false).length) := ⟨_, rfl⟩
      obtain ⟨C, hC⟩ : ∃ C, C = sumZ (s.N.take j) (fun k => (nearD s.E k true).length) := ⟨_, rfl⟩
      rw [← hA, ← hC] at SS
      rw [← hA] at b1 ⊢
      rw [← hC] at b2 ⊢
      have cSo := Lib.hid (fun W (hW : Below w3.heap.size w3 W) => (A3.out.below hW).soft (by have := EQN.out; omega) k)
      have cNe := Lib.hid (fun W (hW : Below w3.heap.size w3 W) => (A3.out.below hW).near (by have := EQN.out; omega) k)
      have hs4 : (nearD s.E k true).length ≤ 4 := TR.out.soft k
      have hs5 := FEW.out k false
      obtain ⟨SO, hSO⟩ : ∃ l, l = nearD s.E k true := ⟨_, rfl⟩
      obtain ⟨NE, hNE⟩ : ∃ l, l = nearD s.E k false := ⟨_, rfl⟩
      rw [← hSO, ← hNE] at SS
      rw [← hSO] at cSo hs4
      rw [← hNE] at cNe hs5
      have hd4 : ¬ (4 : Int) < (SO.length : Int) := by omega
      have hd5 : decide (4 < SO.length) = false := decide_eq_false (by omega)
      have hw1 : IntKind.i64.wrap ((NE.length : Int) - (SO.length : Int)) = (NE.length : Int) - (SO.length : Int) := IntWalk.i64_in _ (by omega)
      have hw2 : IntKind.i64.wrap ((A : Int) - (C : Int) + ((NE.length : Int) - (SO.length : Int))) = (A : Int) - (C : Int) + ((NE.length : Int) - (SO.length : Int)) := IntWalk.i64_in _ (by omega)
      have BR := Lib.hid hbr
      clear hk hA hC hSO hNE hbr
      go_wp2_with fail
      (with_reducible refine (cSo.out _ BR.out).mono ?_)
      rintro e w5 ⟨v5, rfl, h5, hb5⟩
      obtain ⟨p5, n5, k5, rfl⟩ := own_form h5
      obtain rfl : n5 = SO.length := own_len h5
      have B5 := Lib.hid (BR.out.trans (hb5.mono BR.out.size))
      clear h5 hb5
      go_wp2_with fail
      (with_reducible refine (cNe.out _ B5.out).mono ?_)
      rintro e w6 ⟨v6, rfl, h6, hb6⟩
      obtain ⟨p6, n6, k6, rfl⟩ := own_form h6
      obtain rfl : n6 = NE.length := own_len h6
      have B6 := Lib.hid (B5.out.trans (hb6.mono B5.out.size))
      clear h6 hb6
      go_wp2_with fail
      (with_reducible refine (cSo.out _ B6.out).mono ?_)
      rintro e w7 ⟨v7, rfl, h7, hb7⟩
      obtain ⟨p7, n7, k7, rfl⟩ := own_form h7
      obtain rfl : n7 = SO.length := own_len h7
      have B7 := Lib.hid (B6.out.trans (hb7.mono B6.out.size))
      clear h7 hb7
      go_wp2_with fail
      go_roundg (n3 - (j + 1))
      case measure => omega
      case rel => exact ⟨j + 1, rfl, by omega, by go_num, by rw [SS.out.1, SS.out.2]; push_cast; congr 1; omega, B7.out⟩
    · obtain rfl : j = n3 := by omega
      have hsum : (sumZ (s.N.take j) (fun k => (nearD s.E k false).length) : Int) - (sumZ (s.N.take j) (fun k => (nearD s.E k true).length) : Int) = 2 * ((j - 1 : Nat) : Int) := by
        have h1 : s.N.take j = s.N := List.take_of_length_le (by rw [← EQN.out]; exact Nat.le_refl _)
        rw [h1]
        obtain ⟨s1, s2⟩ := sides OK.out.rel.egs (sorted_nodup (N_sorted OK.out))
        have s3 : s.E.countP (fun e => e.2.2) = s.L.length - 1 := TR.out.count
        rw [s1, s2, s3]
        have h4 := EQL.out
        have h5 : s.E.countP (fun e => e.2.2) ≤ s.E.length := List.countP_le_length
        omega
      rw [hsum]
      obtain ⟨W5, hW5⟩ : ∃ W, W = wr.drew := ⟨_, rfl⟩
      have hb5 : Below w3.heap.size w3 W5 := by rw [hW5]; exact hbr.drew
      have X5 := X3.out.below hb5
      have cL5 := (A3.out.below hb5).length
      have i5 := cellsB X5.cell 2
      rw [← EQR.out] at i5
      rw [← EQN.out] at cL5
      have cL5 := Lib.hid cL5
      have I5 := Lib.hid i5
      have HW := Lib.hid hW5
      have FIN := Lib.hid (BB3.out.trans (hb5.mono BB3.out.size))
      clear hbr hb5 hW5 X5 i5 hsum b1 b2 hlt hj
      rcases j with _ | m
      · rw [show 2 * (((0 - 1 : Nat)) : Int) = 0 from rfl]
        go_upto_region 14 with fail
        refine region_goH (fun w' => w'.cell? ⟨x, 2, none⟩ = some (.slice lp 0 lc)) 18 (by kernel_rfl) rfl ?hS0 (fun O hO hH => ?_)
        case hS0 =>
          rw [← HW.out]; exact I5.out
        rw [← HW.out] at hH ⊢
        refine kYH 0 hO hH ?_
        repeat simp only [Act.put, uA1, uB1, uC1]
        refine kYH 1 hO hH ?_
        repeat simp only [Act.put, uA1, uB1, uC1]
        refine spkH 2 hO rfl (by decide +kernel) (by rfl) (fun K' hK => ?_)
        go_simp
        with_reducible refine cL5.out.mono ?_
        rintro e w6 ⟨rfl, rfl⟩
        try dsimp only
        refine hK.out _ _ ?hS (fun hH' => ?_)
        case hS =>
          exact hH
        clear hK K' hH; have hH := hH'; clear hH'; repeat simp only [Act.put, uA1, uB1, uC1]
        refine kYH 3 hO hH ?_ (v := (.int .i64 (-1))) (hy := by intro w hS; (try dsimp only at hS); go_simp; all_goals (first | rfl | exact IntWalk.i64_in _ (by omega) | omega); try with_reducible rfl)
        repeat simp only [Act.put, uA1, uB1, uC1]
        refine kYH 4 hO hH ?_ (v := (.int .i64 0)) (hy := by intro w hS; (try dsimp only at hS); go_simp; all_goals (first | rfl | exact IntWalk.i64_in _ (by omega) | omega); try with_reducible rfl)
        repeat simp only [Act.put, uA1, uB1, uC1]
        refine kYH 5 hO hH ?_ (v := (.int .i64 0)) (hy := by intro w hS; (try dsimp only at hS); go_simp; all_goals (first | rfl | exact IntWalk.i64_in _ (by omega) | omega); try with_reducible rfl)
        repeat simp only [Act.put, uA1, uB1, uC1]
        refine kYH 6 hO hH ?_ (v := (.bool true)) (hy := by intro w hS; (try dsimp only at hS); go_simp; all_goals (first | rfl | exact IntWalk.i64_in _ (by omega) | omega); try with_reducible rfl)
        repeat simp only [Act.put, uA1, uB1, uC1]
        refine kYH 7 hO hH ?_
        repeat simp only [Act.put, uA1, uB1, uC1]
        refine kYH 8 hO hH ?_
        repeat simp only [Act.put, uA1, uB1, uC1]
        refine kYH 10 hO hH ?_
        repeat simp only [Act.put, uA1, uB1, uC1]
        refine kYH 11 hO hH ?_
        repeat simp only [Act.put, uA1, uB1, uC1]
        refine kYH 12 hO hH ?_
        repeat simp only [Act.put, uA1, uB1, uC1]
        refine kYH 13 hO hH ?_
        repeat simp only [Act.put, uA1, uB1, uC1]
        refine kYH 14 hO hH ?_
        repeat simp only [Act.put, uA1, uB1, uC1]
        refine spkH 9 hO rfl (by decide +kernel) (by rfl) (fun K' hK => ?_)
        go_simp
        with_reducible refine cL5.out.mono ?_
        rintro e w7 ⟨rfl, rfl⟩
        try dsimp only
        refine hK.out _ _ ?hS (fun hH' => ?_)
        case hS =>
          exact hH
        clear hK K' hH; have hH := hH'; clear hH'; repeat simp only [Act.put, uA1, uB1, uC1]
        refine kYH 15 hO hH ?_ (v := (.bool true)) (hy := by intro w hS; (try dsimp only at hS); go_simp; all_goals (first | rfl | exact IntWalk.i64_in _ (by omega) | omega); try with_reducible rfl)
        repeat simp only [Act.put, uA1, uB1, uC1]
        refine kYH 16 hO hH ?_
        repeat simp only [Act.put, uA1, uB1, uC1]
        refine kYH 17 hO hH ?_
        repeat simp only [Act.put, uA1, uB1, uC1]
        refine doneH hO (by decide +kernel) ?_
        clear hO
        clear hH
        go_wp2_with fail
        go_ret
        exact ⟨rfl, FIN.out⟩
      · have hw1 : IntKind.i64.wrap (((m + 1 : Nat) : Int) - 1) = (m : Int) := by rw [IntWalk.i64_in _ (by omega)]; omega
        have hw2 : IntKind.i64.wrap (2 * (m : Int)) = 2 * (m : Int) := IntWalk.i64_in _ (by omega)
        have hw3 : ((m + 1 - 1 : Nat) : Int) = (m : Int) := by omega
        rw [hw3]
        clear hw3
        go_upto_region 14 with fail
        refine region_goH (fun w' => w'.cell? ⟨x, 2, none⟩ = some (.slice lp (m + 1) lc)) 18 (by kernel_rfl) rfl ?hS0 (fun O hO hH => ?_)
        case hS0 =>
          rw [← HW.out]; exact I5.out
        rw [← HW.out] at hH ⊢
        refine kYH 0 hO hH ?_
        repeat simp only [Act.put, uA1, uB1, uC1]
        refine kYH 1 hO hH ?_
        repeat simp only [Act.put, uA1, uB1, uC1]
        refine spkH 2 hO rfl (by decide +kernel) (by rfl) (fun K' hK => ?_)
        go_simp
        with_reducible refine cL5.out.mono ?_
        rintro e w6 ⟨rfl, rfl⟩
        try dsimp only
        refine hK.out _ _ ?hS (fun hH' => ?_)
        case hS =>
          exact hH
        clear hK K' hH; have hH := hH'; clear hH'; repeat simp only [Act.put, uA1, uB1, uC1]
        refine kYH 3 hO hH ?_ (v := (.int .i64 m)) (hy := by intro w hS; (try dsimp only at hS); go_simp; all_goals (first | rfl | exact IntWalk.i64_in _ (by omega) | omega); try with_reducible rfl)
        repeat simp only [Act.put, uA1, uB1, uC1]
        refine kYH 4 hO hH ?_ (v := (.int .i64 m)) (hy := by intro w hS; (try dsimp only at hS); go_simp; all_goals (first | rfl | exact IntWalk.i64_in _ (by omega) | omega); try with_reducible rfl)
        repeat simp only [Act.put, uA1, uB1, uC1]
        refine kYH 5 hO hH ?_ (v := (.int .i64 (2 * (m : Int)))) (hy := by intro w hS; (try dsimp only at hS); go_simp; all_goals (first | rfl | exact IntWalk.i64_in _ (by omega) | omega); try with_reducible rfl)
        repeat simp only [Act.put, uA1, uB1, uC1]
        refine kYH 6 hO hH ?_ (v := (.bool true)) (hy := by intro w hS; (try dsimp only at hS); go_simp; all_goals (first | rfl | exact IntWalk.i64_in _ (by omega) | omega); try with_reducible rfl)
        repeat simp only [Act.put, uA1, uB1, uC1]
        refine kYH 7 hO hH ?_
        repeat simp only [Act.put, uA1, uB1, uC1]
        refine kYH 8 hO hH ?_
        repeat simp only [Act.put, uA1, uB1, uC1]
        refine kYH 10 hO hH ?_
        repeat simp only [Act.put, uA1, uB1, uC1]
        refine kYH 11 hO hH ?_
        repeat simp only [Act.put, uA1, uB1, uC1]
        refine kYH 12 hO hH ?_
        repeat simp only [Act.put, uA1, uB1, uC1]
        refine kYH 13 hO hH ?_
        repeat simp only [Act.put, uA1, uB1, uC1]
        refine kYH 14 hO hH ?_
        repeat simp only [Act.put, uA1, uB1, uC1]
        refine spkH 9 hO rfl (by decide +kernel) (by rfl) (fun K' hK => ?_)
        go_simp
        with_reducible refine cL5.out.mono ?_
        rintro e w7 ⟨rfl, rfl⟩
        try dsimp only
        refine hK.out _ _ ?hS (fun hH' => ?_)
        case hS =>
          exact hH
        clear hK K' hH; have hH := hH'; clear hH'; repeat simp only [Act.put, uA1, uB1, uC1]
        refine kYH 15 hO hH ?_ (v := (.bool true)) (hy := by intro w hS; (try dsimp only at hS); go_simp; all_goals (first | rfl | exact IntWalk.i64_in _ (by omega) | omega); try with_reducible rfl)
        repeat simp only [Act.put, uA1, uB1, uC1]
        refine kYH 16 hO hH ?_
        repeat simp only [Act.put, uA1, uB1, uC1]
        refine kYH 17 hO hH ?_
        repeat simp only [Act.put, uA1, uB1, uC1]
        refine doneH hO (by decide +kernel) ?_
        clear hO
        clear hH
        go_wp2_with fail
        go_ret
        exact ⟨rfl, FIN.out⟩

end Go.Proofs.YtpjbkaibgajpcaaGreat
