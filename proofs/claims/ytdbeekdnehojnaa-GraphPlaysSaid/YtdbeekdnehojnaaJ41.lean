/-
  graph's law: GraphPlays.
-/
import Derived.Test.YtdbeekdnehojnaaJ40
namespace Go.Proofs.Ytdbeekdnehojnaa
open Go.RowKit Go.ChangeMaps

theorem play_add (w : World) (B p m c : Nat) (Q : Gr) (Ng N : List Int) (vn ve : Value) (k : Int) (hg : GP B p m Q Ng [] w) (hd : DGr w B c N [] vn ve) (hl : N.length ≤ 900000) :
    Calls Try.prog 23 #[.pointer (some ⟨c, 0, none⟩), .int .u64 k] w fun e w' => (∃ z : Int, e = .returned (.int .i64 z)) ∧ GP B p m Q Ng [] w' ∧ (∃ v, DGr w' B c (addD N k).2 [] v ve) ∧ Below B w w' := by
  refine (dAdd w B c N [] vn ve k hd hl hg.big).mono ?_
  rintro e w' (⟨hn, rfl, rfl⟩ | ⟨hn, rfl, v, hd2, hm⟩)
  · rw [show addD N k = (7, N) from by unfold addD; rw [if_pos hn]]
    exact ⟨⟨7, rfl⟩, hg, ⟨vn, hd⟩, Below.refl _ _⟩
  · rw [show addD N k = (0, putZ N k) from by unfold addD; rw [if_neg hn]]
    refine ⟨⟨0, rfl⟩, ⟨hg.g.doc (B := B) hm fun j e => ⟨e ▸ hd.low, .inl (e ▸ ⟨_, _, hd.cell⟩)⟩, hg.rel, hg.low, Nat.le_trans hg.big hm.size⟩, ⟨v, hd2⟩, hm.below hg.big fun j e => e ▸ hd.low⟩

theorem gx_gs {B : Nat} {w : World} {p c : Nat} {N : List Int} {E : Eg} (h : GX B w (some ⟨p, 0, none⟩) (some ⟨c, 0, none⟩) N E) : ∃ m Q, GS B p m c Q N E w := by
  cases h with
  | two h => exact ⟨_, _, h⟩


set_option maxRecDepth 100000 in
set_option maxHeartbeats 8000000 in
theorem graphPlays (no : Bool) (xs : List Int) (l : List (Int × Int × Int)) (v vl : Value) (w : World) (hX : Nums w .u64 v xs) (hS : ScriptO w vl l) (hf : ∀ r ∈ l, 0 ≤ r.1 ∧ r.1 ≤ 255) : Law 8 #[.bool no, v, vl] w := by
  unfold Law
  obtain ⟨sp, cap, rfl, hcap, hbig, hc⟩ := hS
  have hl : l.length ≤ 9223372036854775807 := by omega
  have HC := Lib.hid hc
  have HF := Lib.hid hf
  clear hcap hbig hc hf
  obtain ⟨xp, xc, rfl, hxcap, hxbig, hxnil, hxc⟩ := hX.slice
  have src := SrcAt.of_nums hX
  obtain ⟨kn, hkn⟩ : ∃ kn, kn = min xs.length 10 := ⟨_, rfl⟩
  obtain ⟨K, hK⟩ : ∃ K, K = xs.take kn := ⟨_, rfl⟩
  have hknl : kn ≤ xs.length := by omega
  have hkn3 : kn ≤ 10 := by omega
  have S1 := Lib.hid (show SrcAt w xp kn xc 1 (K.map (Value.int .u64)) from by have := src.front hknl; rw [Nat.mul_one, ← List.map_take, ← hK] at this; exact this)
  have hKl : K.length = kn := by rw [hK, List.length_take]; omega
  have hmin : ∀ w0, (Builtin.min_ #[3, 3] 3 #[.int .i64 xs.length, .int .i64 10]).run Try.prog w0 = .ok (.int .i64 kn) w0 := fun w0 => by
    rw [min2i]
    congr 2
    omega
  have HMIN := Lib.hid hmin
  have k0 : (0 : Int) ≤ (kn : Int) := by omega
  have k1 : (kn : Int) ≤ (xc : Int) := by omega
  have AW := Lib.hid (lawAwake w)
  have HKL := Lib.hid hKl
  clear hX hxnil hxc src hkn hK hmin
  go_enter Try.func8, Try.ntmps8
  go_wp2_with fail
  with_reducible refine AW.out.mono ?_
  rintro e w0 ⟨rfl, hb0⟩
  have B0 := Lib.hid hb0
  have hmin := HMIN.out
  have hr0 := own_empty w0 w0.heap.size 31 1 (Nat.le_refl _)
  have hb1 := (Below.refl w0.heap.size w0).alloc (Nat.le_refl _) (.cells #[] 31)
  obtain ⟨q2, n2, c2, w2, hrun2, hr2, hg2, -⟩ := run_app rowU hr0 hb1.size ((S1.out.below hb0).below ((Below.refl w0.heap.size w0).alloc (Nat.le_refl _) (.cells #[] 31))) one_nums (by simp only [maxLen]; omega) (by omega)
  obtain rfl : n2 = 0 + kn := own_len hr2
  simp only [Nat.zero_add, List.nil_append] at hr2 hrun2
  have hb2 := hb1.grown hg2 hb1.size (fun b hb => (hr0.lt b hb).1)
  have R2 := Lib.hid (show w2.ownsRow w0.heap.size 31 1 (.slice q2 kn c2) K.length (K.map (Value.int .u64)) from by rw [HKL.out]; exact hr2)
  have B2 := Lib.hid hb2
  clear hb0 AW hr0 hb1 hr2 hg2 hb2
  go_wp2_with (refine wpList_append_eq hrun2 rfl _ _ rfl rfl rfl ?_)
  clear hmin hrun2
  have hKk : K.length ≤ 10 := by rw [HKL.out]; exact hkn3
  have NO := Lib.hid (nodesOf_ok K)
  have RK := Lib.hid (show w2.ownsRow w0.heap.size 31 1 (.slice q2 kn c2) kn (K.map (Value.int .u64)) from by have := R2.out; rw [HKL.out] at this; exact this)
  have cA := GP.new w2 K (nodesOf K) (.slice q2 kn c2) (by have := Nums.of_own R2.out; exact this) (fun _ b e => (R2.out.lt b e).2) (by omega) NO.out.1 NO.out.2
  with_reducible refine cA.mono ?_
  rintro e w3 ⟨p, m, Q, rfl, hGa, hb3⟩
  obtain ⟨c, hcc⟩ : ∃ c, c = w3.heap.size := ⟨_, rfl⟩
  obtain ⟨W3, hW3⟩ : ∃ W3, W3 = w3.alloc (.cells #[.slice none 0 0, .slice none 0 0] 30) := ⟨_, rfl⟩
  have ba : Below w3.heap.size w3 W3 := by rw [hW3]; exact (Below.refl _ _).alloc (Nat.le_refl _) _
  have G0 := Lib.hid (hGa.below ba)
  have D0 := Lib.hid (show DGr W3 w2.heap.size c [] [] (.slice none 0 0) (.slice none 0 0) from ⟨by rw [hcc, hW3]; exact heap_alloc_new _ _, ⟨rfl, .inl ⟨rfl, rfl⟩⟩, ⟨rfl, .inl ⟨rfl, rfl⟩⟩, by rw [hcc]; exact hGa.big⟩)
  have B3 := Lib.hid (hb3.trans (ba.mono hb3.size))
  have HW3 := Lib.hid (And.intro hcc hW3)
  clear hGa hb3 ba hcc hW3 cA
  go_wp2_with fail
  rw [← HW3.out.1, ← HW3.out.2]
  go_loopg [28] kn (fun q i wr => ∃ (j : Nat), q = kn - j ∧ j ≤ kn ∧ i = .int .i64 j ∧ GP w2.heap.size p m Q (nodesOf K) [] wr ∧ (∃ vn ve, DGr wr w2.heap.size c (nodesOf (K.take j)) [] vn ve) ∧ Below w2.heap.size w2 wr)
  case atStart => exact ⟨0, rfl, by omega, rfl, G0.out, ⟨_, _, D0.out⟩, B3.out⟩
  case round =>
    obtain ⟨j, rfl, hj, rfl, hG, ⟨vn, ve, hd⟩, hbl⟩ := hrel
    by_cases hlt : j < kn
    · have hjK : j < K.length := by rw [HKL.out]; exact hlt
      obtain ⟨g, rfl, hcell⟩ := row_cell (own_below RK.out hbl) hjK
      have htk : K.take (j + 1) = K.take j ++ [K[j]] := by rw [List.take_add_one, List.getElem?_eq_getElem hjK]; rfl
      have e1 := nodesOf_snoc (K.take j) K[j]
      rw [← htk] at e1
      obtain ⟨x, hx⟩ : ∃ x, x = K[j] := ⟨_, rfl⟩
      rw [← hx] at hcell e1
      have cP := play_add wr w2.heap.size p m c Q (nodesOf K) (nodesOf (K.take j)) vn ve x hG hd (by have := nodesOf_len (K.take j); rw [List.length_take] at this; omega)
      have BL := Lib.hid hbl
      have E1 := Lib.hid e1
      clear hG hd hbl hx htk e1
      go_wp2_with fail
      with_reducible refine cP.mono ?_
      rintro e w5 ⟨⟨z, rfl⟩, hG5, ⟨v5, hd5⟩, hb5⟩
      have N5 := Lib.hid (And.intro hG5 (And.intro hd5 (BL.out.trans hb5)))
      clear hG5 hd5 hb5
      go_wp2_with fail
      go_roundg (kn - (j + 1))
      case measure => omega
      case rel => exact ⟨j + 1, rfl, by omega, by go_num, N5.out.1, ⟨_, _, by rw [E1.out]; exact N5.out.2.1⟩, N5.out.2.2⟩
    · have htk : K.take j = K := List.take_of_length_le (by rw [HKL.out]; omega)
      rw [htk] at hd
      have NK := Lib.hid (show (nodesOf K).length ≤ 10 from Nat.le_trans (nodesOf_len K) hKk)
      cases no with
      | true =>
        have GX0 := Lib.hid (And.intro (GX.none (w := wr) hG.big) hbl)
        obtain ⟨w4, rfl⟩ : ∃ w4 : World, w4 = wr := ⟨_, rfl⟩
        clear hG hd hbl htk
        go_wp2_with fail
        go_loopg [39] l.length (fun q i wr => ∃ (j : Nat) (N : List Int) (E : Eg), q = l.length - j ∧ j ≤ l.length ∧ j ≤ 60 ∧ i = .int .i64 j ∧ GX w2.heap.size wr none none N E ∧ Below w2.heap.size w2 wr ∧ N.length ≤ 10 + j ∧ E.length ≤ j)
        case atStart => exact ⟨0, _, _, rfl, by omega, by omega, rfl, GX0.out.1, GX0.out.2, by have := NK.out; simp; try omega, by simp⟩
        case round =>
          obtain ⟨j, N, E, rfl, hj, hj6, rfl, hG, hbl, hnl, hel⟩ := hrel
          have ST := Lib.hid (And.intro hG (And.intro hbl (And.intro hnl hel)))
          have BW := Lib.hid ((B0.out.trans (B2.out.mono B0.out.size)).trans (hbl.mono (Nat.le_trans B0.out.size B2.out.size)))
          by_cases hlt : j < l.length
          · obtain ⟨b, off, rfl, q0, q1, q2⟩ := HC.out j hlt
            have d0 := below_cells BW.out q0
            have d1 := below_cells BW.out q1
            have d2 := below_cells BW.out q2
            have hf0 := HF.out _ (List.getElem_mem hlt)
            obtain ⟨⟨a, x, y⟩, ho⟩ : ∃ o, o = l[j] := ⟨_, rfl⟩
            rw [← ho] at d0 d1 d2 hf0
            obtain ⟨Wa, hWa⟩ : ∃ Wa, Wa = wr.alloc (.cells #[.int .u8 a, .int .u64 x, .int .u64 y] 33) := ⟨_, rfl⟩
            have ba : Below wr.heap.size wr Wa := by rw [hWa]; exact (Below.refl _ _).alloc (Nat.le_refl _) _
            have hay : Wa.heap[wr.heap.size]? = some (.cells #[.int .u8 a, .int .u64 x, .int .u64 y] 33 (0, 0)) := by rw [hWa]; exact heap_alloc_new _ _
            have HWA := Lib.hid hWa
            clear q0 q1 q2 ho hWa
            by_cases h60 : j < 60
            · obtain ⟨W0, hW0⟩ : ∃ W0, W0 = Wa.drew := ⟨_, rfl⟩
              have b0 : Below wr.heap.size wr W0 := by rw [hW0]; exact ba.drew
              have bx : W0.heap[wr.heap.size]? = some (.cells #[.int .u8 a, .int .u64 x, .int .u64 y] 33 (0, 0)) := by rw [hW0]; exact hay
              have GA := Lib.hid (hG.below b0)
              have DO := Lib.hid (GA.out.doit (by omega) (by omega) a x y hf0)
              have BA := Lib.hid (hbl.trans (b0.mono hG.big))
              have HW := Lib.hid hW0
              have s0 := cells_get bx 0
              have s1 := cells_get bx 1
              have s2 := cells_get bx 2
              have BX := Lib.hid bx
              clear hf0 ba hay b0 bx hG hbl hnl hel hW0
              go_wp2_with fail
              rw [← HWA.out]
              refine region_goH (fun w' => w'.cell? ⟨wr.heap.size, 0, none⟩ = some (.int .u8 a) ∧ w'.cell? ⟨wr.heap.size, 1, none⟩ = some (.int .u64 x) ∧ w'.cell? ⟨wr.heap.size, 2, none⟩ = some (.int .u64 y)) 52 (by kernel_rfl) rfl ?hS0 (fun O hO hH => ?_)
              case hS0 =>
                rw [← HW.out]; exact ⟨s0, s1, s2⟩
              rw [← HW.out] at hH ⊢
              clear s0 s1 s2
              refine kYH 0 hO hH ?_
              repeat simp only [Act.put, uA1, uB1, uC1]
              refine kYH 1 hO hH ?_
              repeat simp only [Act.put, uA1, uB1, uC1]
              refine kYH 2 hO hH ?_
              repeat simp only [Act.put, uA1, uB1, uC1]
              refine spkH 3 hO rfl (by decide +kernel) (by rfl) (fun K' hK => ?_)
              go_simp
              go_at_call 11
              with_reducible refine DO.out.mono ?_
              rintro e w1 ⟨rfl, N', E', hG1, hn1, he1, hm1⟩
              have bx := hm1.box BX.out (by decide) (by decide)
              have LN := Lib.hid (show N'.length ≤ 100000 ∧ E'.length ≤ 100000 from ⟨by have := ST.out.2.2.1; omega, by have := ST.out.2.2.2; omega⟩)
              have LL := Lib.hid (And.intro hn1 he1)
              have T1 := Lib.hid (And.intro hG1 (BA.out.trans (Turn.low hm1 GA.out.big)))
              have c2 := Lib.hid (hG1.near LN.out.1 x)
              clear hG1 hn1 he1 hm1
              try dsimp only
              refine hK.out _ _ ?hS (fun hH' => ?_)
              case hS =>
                exact ⟨cells_get bx 0, cells_get bx 1, cells_get bx 2⟩
              clear hK K' hH; have hH := hH'; clear hH'; repeat simp only [Act.put, uA1, uB1, uC1]
              refine kYH 4 hO hH ?_
              repeat simp only [Act.put, uA1, uB1, uC1]
              refine kYH 5 hO hH ?_
              repeat simp only [Act.put, uA1, uB1, uC1]
              refine kYH 6 hO hH ?_
              repeat simp only [Act.put, uA1, uB1, uC1]
              refine kYH 7 hO hH ?_
              repeat simp only [Act.put, uA1, uB1, uC1]
              refine kYH 8 hO hH ?_
              repeat simp only [Act.put, uA1, uB1, uC1]
              refine kYH 10 hO hH ?_
              repeat simp only [Act.put, uA1, uB1, uC1]
              refine kYH 11 hO hH ?_
              repeat simp only [Act.put, uA1, uB1, uC1]
              refine kYH 12 hO hH ?_
              repeat simp only [Act.put, uA1, uB1, uC1]
              refine spkH 9 hO rfl (by decide +kernel) (by rfl) (fun K' hK => ?_)
              go_simp
              go_at_call 21
              refine c2.out.mono ?_
              rintro e w3 ⟨v3, rfl, h3, hb3⟩
              obtain ⟨p3, n3, k3, rfl⟩ := own_form h3
              have T3 := Lib.hid (And.intro (T1.out.1.below hb3) (T1.out.2.trans (hb3.mono T1.out.1.big)))
              have bx := (hb3.block _ (lt_block bx)).trans bx
              have R3 := Lib.hid h3
              have c3 := Lib.hid (T3.out.1.dnear LN.out.2 x false)
              clear h3 hb3 c2
              try dsimp only
              refine hK.out _ _ ?hS (fun hH' => ?_)
              case hS =>
                exact ⟨cells_get bx 0, cells_get bx 1, cells_get bx 2⟩
              clear hK K' hH; have hH := hH'; clear hH'; repeat simp only [Act.put, uA1, uB1, uC1]
              refine spkH 13 hO rfl (by decide +kernel) (by rfl) (fun K' hK => ?_)
              go_simp
              go_at_call 24
              refine c3.out.mono ?_
              rintro e w4 ⟨v4, rfl, h4, hb4⟩
              obtain ⟨p4, n4, k4, rfl⟩ := own_form h4
              have T4 := Lib.hid (And.intro (T3.out.1.below hb4) (T3.out.2.trans (hb4.mono T3.out.1.big)))
              have bx := (hb4.block _ (lt_block bx)).trans bx
              have c4 := Lib.hid (sameL R3.out hb4 h4)
              clear h4 hb4 c3
              try dsimp only
              refine hK.out _ _ ?hS (fun hH' => ?_)
              case hS =>
                exact ⟨cells_get bx 0, cells_get bx 1, cells_get bx 2⟩
              clear hK K' hH; have hH := hH'; clear hH'; repeat simp only [Act.put, uA1, uB1, uC1]
              refine spkH 14 hO rfl (by decide +kernel) (by rfl) (fun K' hK => ?_)
              go_simp
              go_at_call 19
              refine c4.out.mono ?_
              rintro e w5 ⟨rfl, hd5⟩
              have T5 := Lib.hid (And.intro (T4.out.1.below hd5.below) (T4.out.2.trans (hd5.below.mono T4.out.1.big)))
              have bx := (hd5.below.block _ (lt_block bx)).trans bx
              have c5 := Lib.hid (T5.out.1.soft LN.out.1 y)
              clear hd5 c4 R3
              try dsimp only
              refine hK.out _ _ ?hS (fun hH' => ?_)
              case hS =>
                exact ⟨cells_get bx 0, cells_get bx 1, cells_get bx 2⟩
              clear hK K' hH; have hH := hH'; clear hH'; repeat simp only [Act.put, uA1, uB1, uC1]
              refine kYH 15 hO hH ?_
              repeat simp only [Act.put, uA1, uB1, uC1]
              refine kYH 16 hO hH ?_
              repeat simp only [Act.put, uA1, uB1, uC1]
              refine kYH 17 hO hH ?_
              repeat simp only [Act.put, uA1, uB1, uC1]
              refine kYH 18 hO hH ?_
              repeat simp only [Act.put, uA1, uB1, uC1]
              refine kYH 19 hO hH ?_
              repeat simp only [Act.put, uA1, uB1, uC1]
              refine kYH 20 hO hH ?_
              repeat simp only [Act.put, uA1, uB1, uC1]
              refine kYH 22 hO hH ?_
              repeat simp only [Act.put, uA1, uB1, uC1]
              refine kYH 23 hO hH ?_
              repeat simp only [Act.put, uA1, uB1, uC1]
              refine kYH 24 hO hH ?_
              repeat simp only [Act.put, uA1, uB1, uC1]
              refine spkH 21 hO rfl (by decide +kernel) (by rfl) (fun K' hK => ?_)
              go_simp
              go_at_call 22
              refine c5.out.mono ?_
              rintro e w6 ⟨v6, rfl, h6, hb6⟩
              obtain ⟨p6, n6, k6, rfl⟩ := own_form h6
              have T6 := Lib.hid (And.intro (T5.out.1.below hb6) (T5.out.2.trans (hb6.mono T5.out.1.big)))
              have bx := (hb6.block _ (lt_block bx)).trans bx
              have R6 := Lib.hid h6
              have c6 := Lib.hid (T6.out.1.dnear LN.out.2 y true)
              clear h6 hb6 c5
              try dsimp only
              refine hK.out _ _ ?hS (fun hH' => ?_)
              case hS =>
                exact ⟨cells_get bx 0, cells_get bx 1, cells_get bx 2⟩
              clear hK K' hH; have hH := hH'; clear hH'; repeat simp only [Act.put, uA1, uB1, uC1]
              refine spkH 25 hO rfl (by decide +kernel) (by rfl) (fun K' hK => ?_)
              go_simp
              go_at_call 24
              refine c6.out.mono ?_
              rintro e w7 ⟨v7, rfl, h7, hb7⟩
              obtain ⟨p7, n7, k7, rfl⟩ := own_form h7
              have T7 := Lib.hid (And.intro (T6.out.1.below hb7) (T6.out.2.trans (hb7.mono T6.out.1.big)))
              have bx := (hb7.block _ (lt_block bx)).trans bx
              have c7 := Lib.hid (sameL R6.out hb7 h7)
              clear h7 hb7 c6
              try dsimp only
              refine hK.out _ _ ?hS (fun hH' => ?_)
              case hS =>
                exact ⟨cells_get bx 0, cells_get bx 1, cells_get bx 2⟩
              clear hK K' hH; have hH := hH'; clear hH'; repeat simp only [Act.put, uA1, uB1, uC1]
              refine spkH 26 hO rfl (by decide +kernel) (by rfl) (fun K' hK => ?_)
              go_simp
              go_at_call 19
              refine c7.out.mono ?_
              rintro e w8 ⟨rfl, hd8⟩
              have T8 := Lib.hid (And.intro (T7.out.1.below hd8.below) (T7.out.2.trans (hd8.below.mono T7.out.1.big)))
              have bx := (hd8.below.block _ (lt_block bx)).trans bx
              have c8 := Lib.hid (T8.out.1.reach LN.out.1 y)
              clear hd8 c7 R6
              try dsimp only
              refine hK.out _ _ ?hS (fun hH' => ?_)
              case hS =>
                exact ⟨cells_get bx 0, cells_get bx 1, cells_get bx 2⟩
              clear hK K' hH; have hH := hH'; clear hH'; repeat simp only [Act.put, uA1, uB1, uC1]
              refine kYH 27 hO hH ?_
              repeat simp only [Act.put, uA1, uB1, uC1]
              refine kYH 28 hO hH ?_
              repeat simp only [Act.put, uA1, uB1, uC1]
              refine kYH 29 hO hH ?_
              repeat simp only [Act.put, uA1, uB1, uC1]
              refine kYH 30 hO hH ?_
              repeat simp only [Act.put, uA1, uB1, uC1]
              refine kYH 31 hO hH ?_
              repeat simp only [Act.put, uA1, uB1, uC1]
              refine kYH 32 hO hH ?_
              repeat simp only [Act.put, uA1, uB1, uC1]
              refine kYH 34 hO hH ?_
              repeat simp only [Act.put, uA1, uB1, uC1]
              refine kYH 35 hO hH ?_
              repeat simp only [Act.put, uA1, uB1, uC1]
              refine kYH 36 hO hH ?_
              repeat simp only [Act.put, uA1, uB1, uC1]
              refine spkH 33 hO rfl (by decide +kernel) (by rfl) (fun K' hK => ?_)
              go_simp
              go_at_call 15
              refine c8.out.mono ?_
              rintro e w9 ⟨v9, rfl, h9, hb9⟩
              obtain ⟨p9, n9, k9, rfl⟩ := own_form h9
              have T9 := Lib.hid (And.intro (T8.out.1.below hb9) (T8.out.2.trans (hb9.mono T8.out.1.big)))
              have bx := (hb9.block _ (lt_block bx)).trans bx
              have R9 := Lib.hid h9
              have c9 := Lib.hid (T9.out.1.dreach LN.out.2 y false)
              clear h9 hb9 c8
              try dsimp only
              refine hK.out _ _ ?hS (fun hH' => ?_)
              case hS =>
                exact ⟨cells_get bx 0, cells_get bx 1, cells_get bx 2⟩
              clear hK K' hH; have hH := hH'; clear hH'; repeat simp only [Act.put, uA1, uB1, uC1]
              refine spkH 37 hO rfl (by decide +kernel) (by rfl) (fun K' hK => ?_)
              go_simp
              go_at_call 13
              refine c9.out.mono ?_
              rintro e w10 ⟨v10, rfl, h10, hb10⟩
              obtain ⟨p10, n10, k10, rfl⟩ := own_form h10
              have T10 := Lib.hid (And.intro (T9.out.1.below hb10) (T9.out.2.trans (hb10.mono T9.out.1.big)))
              have bx := (hb10.block _ (lt_block bx)).trans bx
              have c10 := Lib.hid (sameL R9.out hb10 h10)
              clear h10 hb10 c9
              try dsimp only
              refine hK.out _ _ ?hS (fun hH' => ?_)
              case hS =>
                exact ⟨cells_get bx 0, cells_get bx 1, cells_get bx 2⟩
              clear hK K' hH; have hH := hH'; clear hH'; repeat simp only [Act.put, uA1, uB1, uC1]
              refine spkH 38 hO rfl (by decide +kernel) (by rfl) (fun K' hK => ?_)
              go_simp
              go_at_call 19
              refine c10.out.mono ?_
              rintro e w11 ⟨rfl, hd11⟩
              have T11 := Lib.hid (And.intro (T10.out.1.below hd11.below) (T10.out.2.trans (hd11.below.mono T10.out.1.big)))
              have bx := (hd11.below.block _ (lt_block bx)).trans bx
              have c11 := Lib.hid (T11.out.1.has y)
              have c12 := Lib.hid (T11.out.1.dhas y)
              clear hd11 c10 R9
              try dsimp only
              refine hK.out _ _ ?hS (fun hH' => ?_)
              case hS =>
                exact ⟨cells_get bx 0, cells_get bx 1, cells_get bx 2⟩
              clear hK K' hH; have hH := hH'; clear hH'; repeat simp only [Act.put, uA1, uB1, uC1]
              refine kYH 39 hO hH ?_
              repeat simp only [Act.put, uA1, uB1, uC1]
              refine kYH 40 hO hH ?_
              repeat simp only [Act.put, uA1, uB1, uC1]
              refine kYH 41 hO hH ?_
              repeat simp only [Act.put, uA1, uB1, uC1]
              refine kYH 42 hO hH ?_
              repeat simp only [Act.put, uA1, uB1, uC1]
              refine kYH 43 hO hH ?_
              repeat simp only [Act.put, uA1, uB1, uC1]
              refine kYH 44 hO hH ?_
              repeat simp only [Act.put, uA1, uB1, uC1]
              refine kYH 46 hO hH ?_
              repeat simp only [Act.put, uA1, uB1, uC1]
              refine kYH 47 hO hH ?_
              repeat simp only [Act.put, uA1, uB1, uC1]
              refine kYH 48 hO hH ?_
              repeat simp only [Act.put, uA1, uB1, uC1]
              refine spkH 45 hO rfl (by decide +kernel) (by rfl) (fun K' hK => ?_)
              go_simp
              go_at_call 25
              refine c11.out.mono ?_
              rintro e w12 ⟨rfl, hw⟩
              obtain rfl : w11 = w12 := hw.symm
              try dsimp only
              refine hK.out _ _ ?hS (fun hH' => ?_)
              case hS =>
                exact ⟨cells_get bx 0, cells_get bx 1, cells_get bx 2⟩
              clear hK K' hH; have hH := hH'; clear hH'; repeat simp only [Act.put, uA1, uB1, uC1]
              refine spkH 49 hO rfl (by decide +kernel) (by rfl) (fun K' hK => ?_)
              go_simp
              go_at_call 26
              refine c12.out.mono ?_
              rintro e w12 ⟨rfl, hw⟩
              obtain rfl : w11 = w12 := hw.symm
              try dsimp only
              refine hK.out _ _ ?hS (fun hH' => ?_)
              case hS =>
                exact ⟨cells_get bx 0, cells_get bx 1, cells_get bx 2⟩
              clear hK K' hH; have hH := hH'; clear hH'; repeat simp only [Act.put, uA1, uB1, uC1]
              refine kYH 50 hO hH ?_
              repeat simp only [Act.put, uA1, uB1, uC1]
              refine kYH 51 hO hH ?_
              repeat simp only [Act.put, uA1, uB1, uC1]
              refine doneH hO (by decide +kernel) ?_
              clear hO
              go_wp2_with fail
              go_roundg (l.length - (j + 1))
              case measure => omega
              case rel => exact ⟨j + 1, N', E', rfl, by omega, by omega, by go_num, T11.out.1, T11.out.2, by have h1 := LL.out.1; have h2 := ST.out.2.2.1; omega, by have h1 := LL.out.2; have h2 := ST.out.2.2.2; omega⟩
            · have GA := Lib.hid (hG.below ba)
              have BA := Lib.hid (hbl.trans (ba.mono hG.big))
              clear hf0 ba hay hG hbl hnl hel
              go_wp2_with fail
              rw [← HWA.out]
              have FB := Lib.hid ((B0.out.trans (B2.out.mono B0.out.size)).trans (BA.out.mono (Nat.le_trans B0.out.size B2.out.size)))
              go_wp2_with (first
                | (go_at_call 17; refine (gKeys_nil _).mono ?_; rintro e w' ⟨rfl, rfl⟩)
                | (go_at_call 20; refine (gLen_nil _).mono ?_; rintro e w' ⟨rfl, rfl⟩))
              go_ret
              exact ⟨rfl, FB.out⟩
          · have GA := Lib.hid hG
            have BA := Lib.hid hbl
            clear hG hbl hnl hel
            go_wp2_with fail
            have FB := Lib.hid ((B0.out.trans (B2.out.mono B0.out.size)).trans (BA.out.mono (Nat.le_trans B0.out.size B2.out.size)))
            go_wp2_with (first
              | (go_at_call 17; refine (gKeys_nil _).mono ?_; rintro e w' ⟨rfl, rfl⟩)
              | (go_at_call 20; refine (gLen_nil _).mono ?_; rintro e w' ⟨rfl, rfl⟩))
            go_ret
            exact ⟨rfl, FB.out⟩
      | false =>
        have GX0 := Lib.hid (And.intro (GX.two ⟨hG.g, ⟨vn, ve, hd⟩, hG.rel, hG.low, hG.big⟩) hbl)
        obtain ⟨w4, rfl⟩ : ∃ w4 : World, w4 = wr := ⟨_, rfl⟩
        clear hG hd hbl htk
        go_wp2_with fail
        go_loopg [39] l.length (fun q i wr => ∃ (j : Nat) (N : List Int) (E : Eg), q = l.length - j ∧ j ≤ l.length ∧ j ≤ 60 ∧ i = .int .i64 j ∧ GX w2.heap.size wr (some ⟨p, 0, none⟩) (some ⟨c, 0, none⟩) N E ∧ Below w2.heap.size w2 wr ∧ N.length ≤ 10 + j ∧ E.length ≤ j)
        case atStart => exact ⟨0, _, _, rfl, by omega, by omega, rfl, GX0.out.1, GX0.out.2, by have := NK.out; simp; try omega, by simp⟩
        case round =>
          obtain ⟨j, N, E, rfl, hj, hj6, rfl, hG, hbl, hnl, hel⟩ := hrel
          have ST := Lib.hid (And.intro hG (And.intro hbl (And.intro hnl hel)))
          have BW := Lib.hid ((B0.out.trans (B2.out.mono B0.out.size)).trans (hbl.mono (Nat.le_trans B0.out.size B2.out.size)))
          by_cases hlt : j < l.length
          · obtain ⟨b, off, rfl, q0, q1, q2⟩ := HC.out j hlt
            have d0 := below_cells BW.out q0
            have d1 := below_cells BW.out q1
            have d2 := below_cells BW.out q2
            have hf0 := HF.out _ (List.getElem_mem hlt)
            obtain ⟨⟨a, x, y⟩, ho⟩ : ∃ o, o = l[j] := ⟨_, rfl⟩
            rw [← ho] at d0 d1 d2 hf0
            obtain ⟨Wa, hWa⟩ : ∃ Wa, Wa = wr.alloc (.cells #[.int .u8 a, .int .u64 x, .int .u64 y] 33) := ⟨_, rfl⟩
            have ba : Below wr.heap.size wr Wa := by rw [hWa]; exact (Below.refl _ _).alloc (Nat.le_refl _) _
            have hay : Wa.heap[wr.heap.size]? = some (.cells #[.int .u8 a, .int .u64 x, .int .u64 y] 33 (0, 0)) := by rw [hWa]; exact heap_alloc_new _ _
            have HWA := Lib.hid hWa
            clear q0 q1 q2 ho hWa
            by_cases h60 : j < 60
            · obtain ⟨W0, hW0⟩ : ∃ W0, W0 = Wa.drew := ⟨_, rfl⟩
              have b0 : Below wr.heap.size wr W0 := by rw [hW0]; exact ba.drew
              have bx : W0.heap[wr.heap.size]? = some (.cells #[.int .u8 a, .int .u64 x, .int .u64 y] 33 (0, 0)) := by rw [hW0]; exact hay
              have GA := Lib.hid (hG.below b0)
              have DO := Lib.hid (GA.out.doit (by omega) (by omega) a x y hf0)
              have BA := Lib.hid (hbl.trans (b0.mono hG.big))
              have HW := Lib.hid hW0
              have s0 := cells_get bx 0
              have s1 := cells_get bx 1
              have s2 := cells_get bx 2
              have BX := Lib.hid bx
              clear hf0 ba hay b0 bx hG hbl hnl hel hW0
              go_wp2_with fail
              rw [← HWA.out]
              refine region_goH (fun w' => w'.cell? ⟨wr.heap.size, 0, none⟩ = some (.int .u8 a) ∧ w'.cell? ⟨wr.heap.size, 1, none⟩ = some (.int .u64 x) ∧ w'.cell? ⟨wr.heap.size, 2, none⟩ = some (.int .u64 y)) 52 (by kernel_rfl) rfl ?hS0 (fun O hO hH => ?_)
              case hS0 =>
                rw [← HW.out]; exact ⟨s0, s1, s2⟩
              rw [← HW.out] at hH ⊢
              clear s0 s1 s2
              refine kYH 0 hO hH ?_
              repeat simp only [Act.put, uA1, uB1, uC1]
              refine kYH 1 hO hH ?_
              repeat simp only [Act.put, uA1, uB1, uC1]
              refine kYH 2 hO hH ?_
              repeat simp only [Act.put, uA1, uB1, uC1]
              refine spkH 3 hO rfl (by decide +kernel) (by rfl) (fun K' hK => ?_)
              go_simp
              go_at_call 11
              with_reducible refine DO.out.mono ?_
              rintro e w1 ⟨rfl, N', E', hG1, hn1, he1, hm1⟩
              have bx := hm1.box BX.out (by decide) (by decide)
              have LN := Lib.hid (show N'.length ≤ 100000 ∧ E'.length ≤ 100000 from ⟨by have := ST.out.2.2.1; omega, by have := ST.out.2.2.2; omega⟩)
              have LL := Lib.hid (And.intro hn1 he1)
              have T1 := Lib.hid (And.intro hG1 (BA.out.trans (Turn.low hm1 GA.out.big)))
              have c2 := Lib.hid (hG1.near LN.out.1 x)
              clear hG1 hn1 he1 hm1
              try dsimp only
              refine hK.out _ _ ?hS (fun hH' => ?_)
              case hS =>
                exact ⟨cells_get bx 0, cells_get bx 1, cells_get bx 2⟩
              clear hK K' hH; have hH := hH'; clear hH'; repeat simp only [Act.put, uA1, uB1, uC1]
              refine kYH 4 hO hH ?_
              repeat simp only [Act.put, uA1, uB1, uC1]
              refine kYH 5 hO hH ?_
              repeat simp only [Act.put, uA1, uB1, uC1]
              refine kYH 6 hO hH ?_
              repeat simp only [Act.put, uA1, uB1, uC1]
              refine kYH 7 hO hH ?_
              repeat simp only [Act.put, uA1, uB1, uC1]
              refine kYH 8 hO hH ?_
              repeat simp only [Act.put, uA1, uB1, uC1]
              refine kYH 10 hO hH ?_
              repeat simp only [Act.put, uA1, uB1, uC1]
              refine kYH 11 hO hH ?_
              repeat simp only [Act.put, uA1, uB1, uC1]
              refine kYH 12 hO hH ?_
              repeat simp only [Act.put, uA1, uB1, uC1]
              refine spkH 9 hO rfl (by decide +kernel) (by rfl) (fun K' hK => ?_)
              go_simp
              go_at_call 21
              refine c2.out.mono ?_
              rintro e w3 ⟨v3, rfl, h3, hb3⟩
              obtain ⟨p3, n3, k3, rfl⟩ := own_form h3
              have T3 := Lib.hid (And.intro (T1.out.1.below hb3) (T1.out.2.trans (hb3.mono T1.out.1.big)))
              have bx := (hb3.block _ (lt_block bx)).trans bx
              have R3 := Lib.hid h3
              have c3 := Lib.hid (T3.out.1.dnear LN.out.2 x false)
              clear h3 hb3 c2
              try dsimp only
              refine hK.out _ _ ?hS (fun hH' => ?_)
              case hS =>
                exact ⟨cells_get bx 0, cells_get bx 1, cells_get bx 2⟩
              clear hK K' hH; have hH := hH'; clear hH'; repeat simp only [Act.put, uA1, uB1, uC1]
              refine spkH 13 hO rfl (by decide +kernel) (by rfl) (fun K' hK => ?_)
              go_simp
              go_at_call 24
              refine c3.out.mono ?_
              rintro e w4 ⟨v4, rfl, h4, hb4⟩
              obtain ⟨p4, n4, k4, rfl⟩ := own_form h4
              have T4 := Lib.hid (And.intro (T3.out.1.below hb4) (T3.out.2.trans (hb4.mono T3.out.1.big)))
              have bx := (hb4.block _ (lt_block bx)).trans bx
              have c4 := Lib.hid (sameL R3.out hb4 h4)
              clear h4 hb4 c3
              try dsimp only
              refine hK.out _ _ ?hS (fun hH' => ?_)
              case hS =>
                exact ⟨cells_get bx 0, cells_get bx 1, cells_get bx 2⟩
              clear hK K' hH; have hH := hH'; clear hH'; repeat simp only [Act.put, uA1, uB1, uC1]
              refine spkH 14 hO rfl (by decide +kernel) (by rfl) (fun K' hK => ?_)
              go_simp
              go_at_call 19
              refine c4.out.mono ?_
              rintro e w5 ⟨rfl, hd5⟩
              have T5 := Lib.hid (And.intro (T4.out.1.below hd5.below) (T4.out.2.trans (hd5.below.mono T4.out.1.big)))
              have bx := (hd5.below.block _ (lt_block bx)).trans bx
              have c5 := Lib.hid (T5.out.1.soft LN.out.1 y)
              clear hd5 c4 R3
              try dsimp only
              refine hK.out _ _ ?hS (fun hH' => ?_)
              case hS =>
                exact ⟨cells_get bx 0, cells_get bx 1, cells_get bx 2⟩
              clear hK K' hH; have hH := hH'; clear hH'; repeat simp only [Act.put, uA1, uB1, uC1]
              refine kYH 15 hO hH ?_
              repeat simp only [Act.put, uA1, uB1, uC1]
              refine kYH 16 hO hH ?_
              repeat simp only [Act.put, uA1, uB1, uC1]
              refine kYH 17 hO hH ?_
              repeat simp only [Act.put, uA1, uB1, uC1]
              refine kYH 18 hO hH ?_
              repeat simp only [Act.put, uA1, uB1, uC1]
              refine kYH 19 hO hH ?_
              repeat simp only [Act.put, uA1, uB1, uC1]
              refine kYH 20 hO hH ?_
              repeat simp only [Act.put, uA1, uB1, uC1]
              refine kYH 22 hO hH ?_
              repeat simp only [Act.put, uA1, uB1, uC1]
              refine kYH 23 hO hH ?_
              repeat simp only [Act.put, uA1, uB1, uC1]
              refine kYH 24 hO hH ?_
              repeat simp only [Act.put, uA1, uB1, uC1]
              refine spkH 21 hO rfl (by decide +kernel) (by rfl) (fun K' hK => ?_)
              go_simp
              go_at_call 22
              refine c5.out.mono ?_
              rintro e w6 ⟨v6, rfl, h6, hb6⟩
              obtain ⟨p6, n6, k6, rfl⟩ := own_form h6
              have T6 := Lib.hid (And.intro (T5.out.1.below hb6) (T5.out.2.trans (hb6.mono T5.out.1.big)))
              have bx := (hb6.block _ (lt_block bx)).trans bx
              have R6 := Lib.hid h6
              have c6 := Lib.hid (T6.out.1.dnear LN.out.2 y true)
              clear h6 hb6 c5
              try dsimp only
              refine hK.out _ _ ?hS (fun hH' => ?_)
              case hS =>
                exact ⟨cells_get bx 0, cells_get bx 1, cells_get bx 2⟩
              clear hK K' hH; have hH := hH'; clear hH'; repeat simp only [Act.put, uA1, uB1, uC1]
              refine spkH 25 hO rfl (by decide +kernel) (by rfl) (fun K' hK => ?_)
              go_simp
              go_at_call 24
              refine c6.out.mono ?_
              rintro e w7 ⟨v7, rfl, h7, hb7⟩
              obtain ⟨p7, n7, k7, rfl⟩ := own_form h7
              have T7 := Lib.hid (And.intro (T6.out.1.below hb7) (T6.out.2.trans (hb7.mono T6.out.1.big)))
              have bx := (hb7.block _ (lt_block bx)).trans bx
              have c7 := Lib.hid (sameL R6.out hb7 h7)
              clear h7 hb7 c6
              try dsimp only
              refine hK.out _ _ ?hS (fun hH' => ?_)
              case hS =>
                exact ⟨cells_get bx 0, cells_get bx 1, cells_get bx 2⟩
              clear hK K' hH; have hH := hH'; clear hH'; repeat simp only [Act.put, uA1, uB1, uC1]
              refine spkH 26 hO rfl (by decide +kernel) (by rfl) (fun K' hK => ?_)
              go_simp
              go_at_call 19
              refine c7.out.mono ?_
              rintro e w8 ⟨rfl, hd8⟩
              have T8 := Lib.hid (And.intro (T7.out.1.below hd8.below) (T7.out.2.trans (hd8.below.mono T7.out.1.big)))
              have bx := (hd8.below.block _ (lt_block bx)).trans bx
              have c8 := Lib.hid (T8.out.1.reach LN.out.1 y)
              clear hd8 c7 R6
              try dsimp only
              refine hK.out _ _ ?hS (fun hH' => ?_)
              case hS =>
                exact ⟨cells_get bx 0, cells_get bx 1, cells_get bx 2⟩
              clear hK K' hH; have hH := hH'; clear hH'; repeat simp only [Act.put, uA1, uB1, uC1]
              refine kYH 27 hO hH ?_
              repeat simp only [Act.put, uA1, uB1, uC1]
              refine kYH 28 hO hH ?_
              repeat simp only [Act.put, uA1, uB1, uC1]
              refine kYH 29 hO hH ?_
              repeat simp only [Act.put, uA1, uB1, uC1]
              refine kYH 30 hO hH ?_
              repeat simp only [Act.put, uA1, uB1, uC1]
              refine kYH 31 hO hH ?_
              repeat simp only [Act.put, uA1, uB1, uC1]
              refine kYH 32 hO hH ?_
              repeat simp only [Act.put, uA1, uB1, uC1]
              refine kYH 34 hO hH ?_
              repeat simp only [Act.put, uA1, uB1, uC1]
              refine kYH 35 hO hH ?_
              repeat simp only [Act.put, uA1, uB1, uC1]
              refine kYH 36 hO hH ?_
              repeat simp only [Act.put, uA1, uB1, uC1]
              refine spkH 33 hO rfl (by decide +kernel) (by rfl) (fun K' hK => ?_)
              go_simp
              go_at_call 15
              refine c8.out.mono ?_
              rintro e w9 ⟨v9, rfl, h9, hb9⟩
              obtain ⟨p9, n9, k9, rfl⟩ := own_form h9
              have T9 := Lib.hid (And.intro (T8.out.1.below hb9) (T8.out.2.trans (hb9.mono T8.out.1.big)))
              have bx := (hb9.block _ (lt_block bx)).trans bx
              have R9 := Lib.hid h9
              have c9 := Lib.hid (T9.out.1.dreach LN.out.2 y false)
              clear h9 hb9 c8
              try dsimp only
              refine hK.out _ _ ?hS (fun hH' => ?_)
              case hS =>
                exact ⟨cells_get bx 0, cells_get bx 1, cells_get bx 2⟩
              clear hK K' hH; have hH := hH'; clear hH'; repeat simp only [Act.put, uA1, uB1, uC1]
              refine spkH 37 hO rfl (by decide +kernel) (by rfl) (fun K' hK => ?_)
              go_simp
              go_at_call 13
              refine c9.out.mono ?_
              rintro e w10 ⟨v10, rfl, h10, hb10⟩
              obtain ⟨p10, n10, k10, rfl⟩ := own_form h10
              have T10 := Lib.hid (And.intro (T9.out.1.below hb10) (T9.out.2.trans (hb10.mono T9.out.1.big)))
              have bx := (hb10.block _ (lt_block bx)).trans bx
              have c10 := Lib.hid (sameL R9.out hb10 h10)
              clear h10 hb10 c9
              try dsimp only
              refine hK.out _ _ ?hS (fun hH' => ?_)
              case hS =>
                exact ⟨cells_get bx 0, cells_get bx 1, cells_get bx 2⟩
              clear hK K' hH; have hH := hH'; clear hH'; repeat simp only [Act.put, uA1, uB1, uC1]
              refine spkH 38 hO rfl (by decide +kernel) (by rfl) (fun K' hK => ?_)
              go_simp
              go_at_call 19
              refine c10.out.mono ?_
              rintro e w11 ⟨rfl, hd11⟩
              have T11 := Lib.hid (And.intro (T10.out.1.below hd11.below) (T10.out.2.trans (hd11.below.mono T10.out.1.big)))
              have bx := (hd11.below.block _ (lt_block bx)).trans bx
              have c11 := Lib.hid (T11.out.1.has y)
              have c12 := Lib.hid (T11.out.1.dhas y)
              clear hd11 c10 R9
              try dsimp only
              refine hK.out _ _ ?hS (fun hH' => ?_)
              case hS =>
                exact ⟨cells_get bx 0, cells_get bx 1, cells_get bx 2⟩
              clear hK K' hH; have hH := hH'; clear hH'; repeat simp only [Act.put, uA1, uB1, uC1]
              refine kYH 39 hO hH ?_
              repeat simp only [Act.put, uA1, uB1, uC1]
              refine kYH 40 hO hH ?_
              repeat simp only [Act.put, uA1, uB1, uC1]
              refine kYH 41 hO hH ?_
              repeat simp only [Act.put, uA1, uB1, uC1]
              refine kYH 42 hO hH ?_
              repeat simp only [Act.put, uA1, uB1, uC1]
              refine kYH 43 hO hH ?_
              repeat simp only [Act.put, uA1, uB1, uC1]
              refine kYH 44 hO hH ?_
              repeat simp only [Act.put, uA1, uB1, uC1]
              refine kYH 46 hO hH ?_
              repeat simp only [Act.put, uA1, uB1, uC1]
              refine kYH 47 hO hH ?_
              repeat simp only [Act.put, uA1, uB1, uC1]
              refine kYH 48 hO hH ?_
              repeat simp only [Act.put, uA1, uB1, uC1]
              refine spkH 45 hO rfl (by decide +kernel) (by rfl) (fun K' hK => ?_)
              go_simp
              go_at_call 25
              refine c11.out.mono ?_
              rintro e w12 ⟨rfl, hw⟩
              obtain rfl : w11 = w12 := hw.symm
              try dsimp only
              refine hK.out _ _ ?hS (fun hH' => ?_)
              case hS =>
                exact ⟨cells_get bx 0, cells_get bx 1, cells_get bx 2⟩
              clear hK K' hH; have hH := hH'; clear hH'; repeat simp only [Act.put, uA1, uB1, uC1]
              refine spkH 49 hO rfl (by decide +kernel) (by rfl) (fun K' hK => ?_)
              go_simp
              go_at_call 26
              refine c12.out.mono ?_
              rintro e w12 ⟨rfl, hw⟩
              obtain rfl : w11 = w12 := hw.symm
              try dsimp only
              refine hK.out _ _ ?hS (fun hH' => ?_)
              case hS =>
                exact ⟨cells_get bx 0, cells_get bx 1, cells_get bx 2⟩
              clear hK K' hH; have hH := hH'; clear hH'; repeat simp only [Act.put, uA1, uB1, uC1]
              refine kYH 50 hO hH ?_
              repeat simp only [Act.put, uA1, uB1, uC1]
              refine kYH 51 hO hH ?_
              repeat simp only [Act.put, uA1, uB1, uC1]
              refine doneH hO (by decide +kernel) ?_
              clear hO
              go_wp2_with fail
              go_roundg (l.length - (j + 1))
              case measure => omega
              case rel => exact ⟨j + 1, N', E', rfl, by omega, by omega, by go_num, T11.out.1, T11.out.2, by have h1 := LL.out.1; have h2 := ST.out.2.2.1; omega, by have h1 := LL.out.2; have h2 := ST.out.2.2.2; omega⟩
            · have GA := Lib.hid (hG.below ba)
              have BA := Lib.hid (hbl.trans (ba.mono hG.big))
              clear hf0 ba hay hG hbl hnl hel
              go_wp2_with fail
              rw [← HWA.out]
              obtain ⟨m4, Q4, hG4⟩ := gx_gs GA.out
              obtain ⟨vn, ve, hd4⟩ := hG4.d
              obtain ⟨pn, nn, kk, rfl⟩ := own_form hd4.nodes
              obtain rfl : nn = N.length := own_len hd4.nodes
              have lnN := ST.out.2.2.1
              obtain ⟨W0, hW0⟩ : ∃ W0, W0 = Wa.drew := ⟨_, rfl⟩
              have b0 : Below Wa.heap.size Wa W0 := by rw [hW0]; exact (Below.refl _ _).drew
              have D0 := Lib.hid (hd4.below b0)
              have G0 := Lib.hid (hG4.gp.below b0)
              have LN := Lib.hid (show N.length ≤ 100000 from by omega)
              have c1 := Lib.hid (G0.out.keys LN.out)
              have BA2 := Lib.hid (BA.out.trans (b0.mono hG4.big))
              have ty := D0.out.get0
              have HW := Lib.hid hW0
              have hlN : N.length ≤ 9223372036854775807 := by omega
              clear hW0 b0 hd4 hG4 lnN
              go_wp2_with fail
              refine region_go (fun w' => w'.cell? ⟨c, 0, none⟩ = some (.slice pn N.length kk)) (by kernel_rfl) ?hS0 (fun hH => ?_)
              case hS0 =>
                rw [← HW.out]; exact ty
              rw [← HW.out] at hH ⊢
              refine kY 0 hH ?_
              repeat simp only [Act.put, uA1, uB1, uC1]
              refine kY 2 hH ?_
              repeat simp only [Act.put, uA1, uB1, uC1]
              refine kY 3 hH ?_
              repeat simp only [Act.put, uA1, uB1, uC1]
              refine kY 4 hH ?_
              repeat simp only [Act.put, uA1, uB1, uC1]
              refine kY 5 hH ?_
              repeat simp only [Act.put, uA1, uB1, uC1]
              refine spk 1 rfl (by decide +kernel) (by rfl) (fun K' hK => ?_)
              go_simp
              go_at_call 17
              refine c1.out.mono ?_
              rintro e w5 ⟨v5, rfl, h5, hb5⟩
              obtain ⟨p5, n5, k5, rfl⟩ := own_form h5
              have D5 := Lib.hid (D0.out.below hb5)
              have G5 := Lib.hid (G0.out.below hb5)
              have BA5 := Lib.hid (BA2.out.trans (hb5.mono G0.out.big))
              have c2 := Lib.hid (sameNums N N _ _ w5 (Nums.of_own h5) (Nums.of_own D5.out.nodes))
              clear h5 hb5
              try dsimp only
              refine hK.out _ _ ?hS (fun hH' => ?_)
              case hS =>
                exact D5.out.get0
              clear hK K' hH; have hH := hH'; clear hH'; repeat simp only [Act.put, uA1, uB1, uC1]
              refine spk 6 rfl (by decide +kernel) (by rfl) (fun K' hK => ?_)
              go_simp
              go_at_call 19
              refine c2.out.mono ?_
              rintro e w6 ⟨rfl, hd6⟩
              have D6 := Lib.hid (D5.out.below hd6.below)
              have G6 := Lib.hid (G5.out.below hd6.below)
              have BA6 := Lib.hid (BA5.out.trans (hd6.below.mono G5.out.big))
              have c3 := Lib.hid G6.out.length
              have hdd : decide (N = N) = true := decide_eq_true rfl
              try rw [hdd]
              clear hd6
              try dsimp only
              refine hK.out _ _ ?hS (fun hH' => ?_)
              case hS =>
                exact D6.out.get0
              clear hK K' hH; have hH := hH'; clear hH'; repeat simp only [Act.put, uA1, uB1, uC1]
              refine kY 7 hH ?_
              repeat simp only [Act.put, uA1, uB1, uC1]
              refine kY 8 hH ?_
              repeat simp only [Act.put, uA1, uB1, uC1]
              refine kY 10 hH ?_
              repeat simp only [Act.put, uA1, uB1, uC1]
              refine kY 11 hH ?_
              repeat simp only [Act.put, uA1, uB1, uC1]
              refine kY 12 hH ?_
              repeat simp only [Act.put, uA1, uB1, uC1]
              refine kY 13 hH ?_
              repeat simp only [Act.put, uA1, uB1, uC1]
              refine kY 14 hH ?_
              repeat simp only [Act.put, uA1, uB1, uC1]
              refine spk 9 rfl (by decide +kernel) (by rfl) (fun K' hK => ?_)
              go_simp
              go_at_call 20
              refine c3.out.mono ?_
              rintro e w7 ⟨rfl, hw⟩
              obtain rfl : w6 = w7 := hw.symm
              try dsimp only
              refine hK.out _ _ ?hS (fun hH' => ?_)
              case hS =>
                exact D6.out.get0
              clear hK K' hH; have hH := hH'; clear hH'; repeat simp only [Act.put, uA1, uB1, uC1]
              refine kY 15 hH ?_
              repeat simp only [Act.put, uA1, uB1, uC1]
              refine kY 16 hH ?_
              repeat simp only [Act.put, uA1, uB1, uC1]
              refine kY 17 hH ?_
              repeat simp only [Act.put, uA1, uB1, uC1]
              refine wpAnyH_done (by decide +kernel) ?_ _
              go_wp2_with fail
              go_ret
              exact ⟨ret_bool (by simp), (B0.out.trans (B2.out.mono B0.out.size)).trans (BA6.out.mono (Nat.le_trans B0.out.size B2.out.size))⟩
          · have GA := Lib.hid hG
            have BA := Lib.hid hbl
            clear hG hbl hnl hel
            go_wp2_with fail
            obtain ⟨m4, Q4, hG4⟩ := gx_gs GA.out
            obtain ⟨vn, ve, hd4⟩ := hG4.d
            obtain ⟨pn, nn, kk, rfl⟩ := own_form hd4.nodes
            obtain rfl : nn = N.length := own_len hd4.nodes
            have lnN := ST.out.2.2.1
            obtain ⟨W0, hW0⟩ : ∃ W0, W0 = wr.drew := ⟨_, rfl⟩
            have b0 : Below wr.heap.size wr W0 := by rw [hW0]; exact (Below.refl _ _).drew
            have D0 := Lib.hid (hd4.below b0)
            have G0 := Lib.hid (hG4.gp.below b0)
            have LN := Lib.hid (show N.length ≤ 100000 from by omega)
            have c1 := Lib.hid (G0.out.keys LN.out)
            have BA2 := Lib.hid (BA.out.trans (b0.mono hG4.big))
            have ty := D0.out.get0
            have HW := Lib.hid hW0
            have hlN : N.length ≤ 9223372036854775807 := by omega
            clear hW0 b0 hd4 hG4 lnN
            go_wp2_with fail
            refine region_go (fun w' => w'.cell? ⟨c, 0, none⟩ = some (.slice pn N.length kk)) (by kernel_rfl) ?hS0 (fun hH => ?_)
            case hS0 =>
              rw [← HW.out]; exact ty
            rw [← HW.out] at hH ⊢
            refine kY 0 hH ?_
            repeat simp only [Act.put, uA1, uB1, uC1]
            refine kY 2 hH ?_
            repeat simp only [Act.put, uA1, uB1, uC1]
            refine kY 3 hH ?_
            repeat simp only [Act.put, uA1, uB1, uC1]
            refine kY 4 hH ?_
            repeat simp only [Act.put, uA1, uB1, uC1]
            refine kY 5 hH ?_
            repeat simp only [Act.put, uA1, uB1, uC1]
            refine spk 1 rfl (by decide +kernel) (by rfl) (fun K' hK => ?_)
            go_simp
            go_at_call 17
            refine c1.out.mono ?_
            rintro e w5 ⟨v5, rfl, h5, hb5⟩
            obtain ⟨p5, n5, k5, rfl⟩ := own_form h5
            have D5 := Lib.hid (D0.out.below hb5)
            have G5 := Lib.hid (G0.out.below hb5)
            have BA5 := Lib.hid (BA2.out.trans (hb5.mono G0.out.big))
            have c2 := Lib.hid (sameNums N N _ _ w5 (Nums.of_own h5) (Nums.of_own D5.out.nodes))
            clear h5 hb5
            try dsimp only
            refine hK.out _ _ ?hS (fun hH' => ?_)
            case hS =>
              exact D5.out.get0
            clear hK K' hH; have hH := hH'; clear hH'; repeat simp only [Act.put, uA1, uB1, uC1]
            refine spk 6 rfl (by decide +kernel) (by rfl) (fun K' hK => ?_)
            go_simp
            go_at_call 19
            refine c2.out.mono ?_
            rintro e w6 ⟨rfl, hd6⟩
            have D6 := Lib.hid (D5.out.below hd6.below)
            have G6 := Lib.hid (G5.out.below hd6.below)
            have BA6 := Lib.hid (BA5.out.trans (hd6.below.mono G5.out.big))
            have c3 := Lib.hid G6.out.length
            have hdd : decide (N = N) = true := decide_eq_true rfl
            try rw [hdd]
            clear hd6
            try dsimp only
            refine hK.out _ _ ?hS (fun hH' => ?_)
            case hS =>
              exact D6.out.get0
            clear hK K' hH; have hH := hH'; clear hH'; repeat simp only [Act.put, uA1, uB1, uC1]
            refine kY 7 hH ?_
            repeat simp only [Act.put, uA1, uB1, uC1]
            refine kY 8 hH ?_
            repeat simp only [Act.put, uA1, uB1, uC1]
            refine kY 10 hH ?_
            repeat simp only [Act.put, uA1, uB1, uC1]
            refine kY 11 hH ?_
            repeat simp only [Act.put, uA1, uB1, uC1]
            refine kY 12 hH ?_
            repeat simp only [Act.put, uA1, uB1, uC1]
            refine kY 13 hH ?_
            repeat simp only [Act.put, uA1, uB1, uC1]
            refine kY 14 hH ?_
            repeat simp only [Act.put, uA1, uB1, uC1]
            refine spk 9 rfl (by decide +kernel) (by rfl) (fun K' hK => ?_)
            go_simp
            go_at_call 20
            refine c3.out.mono ?_
            rintro e w7 ⟨rfl, hw⟩
            obtain rfl : w6 = w7 := hw.symm
            try dsimp only
            refine hK.out _ _ ?hS (fun hH' => ?_)
            case hS =>
              exact D6.out.get0
            clear hK K' hH; have hH := hH'; clear hH'; repeat simp only [Act.put, uA1, uB1, uC1]
            refine kY 15 hH ?_
            repeat simp only [Act.put, uA1, uB1, uC1]
            refine kY 16 hH ?_
            repeat simp only [Act.put, uA1, uB1, uC1]
            refine kY 17 hH ?_
            repeat simp only [Act.put, uA1, uB1, uC1]
            refine wpAnyH_done (by decide +kernel) ?_ _
            go_wp2_with fail
            go_ret
            exact ⟨ret_bool (by simp), (B0.out.trans (B2.out.mono B0.out.size)).trans (BA6.out.mono (Nat.le_trans B0.out.size B2.out.size))⟩

end Go.Proofs.Ytdbeekdnehojnaa
