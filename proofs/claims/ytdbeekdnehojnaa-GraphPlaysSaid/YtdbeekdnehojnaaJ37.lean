/-
  graph's law: GraphBoth.
-/
import Derived.Test.YtdbeekdnehojnaaJ36
import Derived.Test.YtdbeekdnehojnaaJ35
namespace Go.Proofs.Ytdbeekdnehojnaa
open Go.RowKit Go.ChangeMaps

theorem near_back {N : List Int} {E : Eg} (h : Egs N E) {a b : Int} (hb : b ∈ nearD E a false) : a ∈ nearD E b false ∧ decide (b ∈ nearD E a true) = decide (a ∈ nearD E b true) ∧ (a == b) = false := by
  obtain ⟨v, hv, -⟩ := (mem_nearD h).1 hb
  refine ⟨(mem_nearD h).2 ⟨v, by rw [edgeD_comm]; exact hv, rfl⟩, ?_, ?_⟩
  · rw [decide_eq_decide, mem_nearD h, mem_nearD h, edgeD_comm]
  · obtain ⟨e, he, -, h1, h2⟩ := mem_adj (E := E) (needed := false) (a := a) (b := b) ⟨v, hv, rfl⟩
    have := (h.ends e he).1
    have hne : a ≠ b := by omega
    simpa using hne

theorem way_in {N : List Int} {E : Eg} (h : Egs N E) {needed : Bool} {a b : Int} (hw : Way (adj E needed) a b) (ha : a ∈ N) : b ∈ N := by
  induction hw with
  | here => exact ha
  | step _ hr _ =>
    obtain ⟨e, he, -, h1, h2⟩ := mem_adj hr
    rename_i b c _ _
    have hen := h.ends e he
    rcases Int.le_total b c with hb | hb
    · rw [Int.max_eq_right hb] at h2; rw [← h2]; exact hen.2.2
    · rw [Int.min_eq_right hb] at h1; rw [← h1]; exact hen.2.1

theorem mem_reachD {N : List Int} {E : Eg} (h : Egs N E) {needed : Bool} {a b : Int} : b ∈ reachD N E a needed ↔ a ∈ N ∧ Way (adj E needed) a b := by
  unfold reachD
  by_cases ha : a ∈ N
  · rw [if_pos ha, mem_reachN h needed ha]; simp [ha]
  · rw [if_neg ha]; simp [ha]

theorem reach_back {N : List Int} {E : Eg} (h : Egs N E) {needed : Bool} {a b : Int} (hb : b ∈ reachD N E a needed) : a ∈ reachD N E b needed := by
  obtain ⟨ha, hw⟩ := (mem_reachD h).1 hb
  exact (mem_reachD h).2 ⟨way_in h hw ha, hw.symm fun _ _ => adj_comm⟩

theorem NewL.nums {w w' : World} {l : List Int} {v : Value} (h : w'.ownsRow w.heap.size 31 1 v l.length (l.map (Value.int .u64))) : Nums w' .u64 v l := Nums.of_own h

/-- a cell of a row of numbers -/
theorem row_cell {w : World} {B n c : Nat} {p : Option Addr} {l : List Int} (h : w.ownsRow B 31 1 (.slice p n c) n (l.map (Value.int .u64))) {j : Nat} (hj : j < l.length) : ∃ g, p = some ⟨g, 0, none⟩ ∧ w.cell? ⟨g, j, none⟩ = some (.int .u64 l[j]) := by
  have hn : l.length = n := by simpa using h.1
  subst hn
  obtain ⟨g, cap', hve, -, hgl⟩ := h.form (by omega)
  obtain ⟨rfl, -, rfl⟩ := Value.slice.inj hve
  exact ⟨g, rfl, by rw [World.ownsRow.cellAt h j (by omega), List.getElem?_map, List.getElem?_eq_getElem hj]; rfl⟩


set_option maxRecDepth 100000 in
set_option maxHeartbeats 8000000 in
theorem graphBoth (l : List (Int × Int × Int)) (v : Value) (w : World) (hS : ScriptO w v l) (hf : ∀ r ∈ l, 0 ≤ r.1 ∧ r.1 ≤ 255) : Law 6 #[v] w := by
  unfold Law
  obtain ⟨sp, cap, rfl, hcap, hbig, hc⟩ := hS
  have hl : l.length ≤ 9223372036854775807 := by omega
  have HC := Lib.hid hc
  have HF := Lib.hid hf
  have AW := Lib.hid (lawAwake w)
  clear hcap hbig hc hf
  go_enter Try.func6, Try.ntmps6
  go_wp2_with fail
  with_reducible refine AW.out.mono ?_
  rintro e w0 ⟨rfl, hb0⟩
  have B0 := Lib.hid hb0
  clear hb0 AW
  go_wp2_with fail
  with_reducible refine (newNone w0).mono ?_
  rintro e w1 ⟨p, m, Q0, rfl, hG, hb1⟩
  have G0 := Lib.hid (GS.start hG)
  have B1 := Lib.hid (hb1.alloc hb1.size (.cells #[.slice none 0 0, .slice none 0 0] 30))
  obtain ⟨c, hcc⟩ : ∃ c, c = w1.heap.size := ⟨_, rfl⟩
  rw [← hcc] at G0
  clear hG hb1
  go_wp2_with fail
  rw [← hcc]
  obtain ⟨W2, hW2⟩ : ∃ W2, W2 = w1.alloc (.cells #[.slice none 0 0, .slice none 0 0] 30) := ⟨_, rfl⟩
  rw [← hW2] at G0 B1 ⊢
  clear hW2 hcc
  go_loopg [20] l.length (fun q i wr => ∃ (j : Nat) (Q : Gr) (N : List Int) (E : Eg), q = l.length - j ∧ j ≤ l.length ∧ i = .int .i64 j ∧ GS w0.heap.size p m c Q N E wr ∧ Below w0.heap.size w0 wr ∧ N.length ≤ min j 60 ∧ E.length ≤ min j 60)
  case atStart => exact ⟨0, Q0, [], [], rfl, by omega, rfl, G0.out, B1.out, by simp, by simp⟩
  case round =>
    obtain ⟨j, Q, N, E, rfl, hj, rfl, hG, hbl, hnl, hel⟩ := hrel
    have ST := Lib.hid (And.intro hG (And.intro hbl (And.intro hnl hel)))
    have BW := Lib.hid (B0.out.trans (hbl.mono B0.out.size))
    by_cases hlt : j < l.length
    · obtain ⟨b, off, rfl, q0, q1, q2⟩ := HC.out j hlt
      have d0 := below_cells BW.out q0
      have d1 := below_cells BW.out q1
      have d2 := below_cells BW.out q2
      have hf0 := HF.out _ (List.getElem_mem hlt)
      obtain ⟨⟨a, x, y⟩, ho⟩ : ∃ o, o = l[j] := ⟨_, rfl⟩
      rw [← ho] at d0 d1 d2 hf0
      obtain ⟨Wa, hWa⟩ : ∃ Wa, Wa = wr.alloc (.cells #[.int .u8 a, .int .u64 x, .int .u64 y] 33) := ⟨_, rfl⟩
      have ba : Below wr.heap.size wr Wa := by rw [hWa]; exact (Below.refl _ _).alloc (Nat.le_refl _) _
      have GA := Lib.hid (hG.below ba)
      have DO := Lib.hid (lawDo Wa w0.heap.size p m c Q N E a x y GA.out (by omega) (by omega) hf0)
      have BA := Lib.hid (hbl.trans (ba.mono hG.big))
      have HWA := Lib.hid hWa
      clear q0 q1 q2 ho hf0 hWa ba hG hbl hnl hel
      by_cases h60 : j < 60
      · go_wp2_with fail
        rw [← HWA.out]
        with_reducible refine DO.out.mono ?_
        rintro e w5 ⟨rfl, Q', hG5, hm5⟩
        have N5 := Lib.hid (And.intro hG5 (BA.out.trans (Turn.low hm5 GA.out.big)))
        clear hG5 hm5
        go_wp2_with fail
        go_roundg (l.length - (j + 1))
        case measure => omega
        case rel => exact ⟨j + 1, Q', _, _, rfl, by omega, by go_num, N5.out.1, N5.out.2, by have h1 := doN_len N a x; have h2 := ST.out.2.2.1; omega, by have h1 := doE_len N E a x y; have h2 := ST.out.2.2.2; omega⟩
      · go_wp2_with fail
        rw [← HWA.out]
        go_roundg (l.length - (j + 1))
        case measure => omega
        case rel => exact ⟨j + 1, Q, N, E, rfl, by omega, by go_num, GA.out, BA.out, by have h2 := ST.out.2.2.1; omega, by have h2 := ST.out.2.2.2; omega⟩
    · obtain ⟨w2, hw2⟩ : ∃ w2, w2 = wr := ⟨_, rfl⟩
      rw [← hw2] at hG hbl BW ⊢
      have hN6 : N.length ≤ 60 := by omega
      have hE6 : E.length ≤ 60 := by omega
      have GG := Lib.hid hG
      have BB := Lib.hid hbl
      clear ST HC HF hw2 hG hbl hnl hel
      have EG := Lib.hid (GG.out.rel.egs)
      have GP2 := Lib.hid GG.out.gp
      have cK := GG.out.gp.keys (by omega)
      go_wp2_with fail
      refine cK.mono ?_
      rintro e w3 ⟨v3, rfl, h3, hb3⟩
      obtain ⟨p3, n3, k3, rfl⟩ := own_form h3
      obtain rfl : n3 = N.length := own_len h3
      have G3 := Lib.hid (GP2.out.below hb3)
      have BB3 := Lib.hid (B0.out.trans ((BB.out.trans (hb3.mono GG.out.big)).mono B0.out.size))
      have R3 := Lib.hid h3
      have hlN : N.length ≤ 9223372036854775807 := by omega
      have LN := Lib.hid (show N.length ≤ 100000 from by omega)
      clear h3 hb3 cK GP2 GG BB hN6 hE6
      go_wp2_with fail
      go_loopg [38] N.length (fun q i w4 => ∃ j : Nat, q = N.length - j ∧ j ≤ N.length ∧ i = .int .i64 j ∧ Below w3.heap.size w3 w4)
      case atStart => exact ⟨0, rfl, by omega, rfl, Below.refl _ _⟩
      case round =>
        obtain ⟨j, rfl, hj, rfl, hbl⟩ := hrel
        have ST := Lib.hid hbl
        by_cases hlt : j < N.length
        · obtain ⟨g, rfl, hcell⟩ := row_cell (own_below R3.out hbl) hlt
          obtain ⟨a, ha⟩ : ∃ a, a = N[j] := ⟨_, rfl⟩
          rw [← ha] at hcell
          have c1 := (G3.out.below hbl).near LN.out a
          have HS := Lib.hid hbl.size
          clear hbl ha
          go_wp2_with fail
          refine c1.mono ?_
          rintro e w4 ⟨v4, rfl, h4, hb4⟩
          obtain ⟨p4, n4, k4, rfl⟩ := own_form h4
          obtain rfl : n4 = (nearD E a false).length := own_len h4
          have R4 := Lib.hid h4
          have B4 := Lib.hid (ST.out.trans (hb4.mono HS.out))
          have hl4 : (nearD E a false).length ≤ 9223372036854775807 := own_short h4
          obtain ⟨L4, hL4⟩ : ∃ L4, L4 = nearD E a false := ⟨_, rfl⟩
          rw [← hL4] at R4 hl4 ⊢
          have HL4 := Lib.hid hL4
          obtain ⟨wx, rfl⟩ : ∃ wx : World, wx = wr := ⟨_, rfl⟩
          clear h4 hb4 hL4 ST
          go_wp2_with fail
          go_loopg [46] L4.length (fun q i w5 => ∃ i4 : Nat, q = L4.length - i4 ∧ i4 ≤ L4.length ∧ i = .int .i64 i4 ∧ Below w4.heap.size w4 w5)
          case atStart => exact ⟨0, rfl, by omega, rfl, Below.refl _ _⟩
          case round =>
            obtain ⟨i4, rfl, hi4, rfl, hbl⟩ := hrel
            have ST := Lib.hid hbl
            by_cases hlt4 : i4 < L4.length
            · obtain ⟨g4, rfl, hcell4⟩ := row_cell (own_below R4.out hbl) hlt4
              have hbm : L4[i4] ∈ nearD E a false := by rw [← HL4.out]; exact List.getElem_mem hlt4
              obtain ⟨b, hb⟩ : ∃ b, b = L4[i4] := ⟨_, rfl⟩
              rw [← hb] at hcell4 hbm
              obtain ⟨f1, f2, f3⟩ := near_back EG.out hbm
              have F1 := Lib.hid (And.intro f1 f2)
              have B5 := Lib.hid (B4.out.trans (hbl.mono B4.out.size))
              have c1 := (G3.out.below B5.out).near LN.out b
              have HS5 := Lib.hid hbl.size
              clear hbl hb hbm f1 f2
              go_wp2_with fail
              refine c1.mono ?_
              rintro e w5 ⟨v5, rfl, h5, hb5⟩
              obtain ⟨p5, n5, k5, rfl⟩ := own_form h5
              have I5 := lawIn w5 _ _ a (Nums.of_own h5)
              rw [decide_eq_true F1.out.1] at I5
              have S5 := Lib.hid (ST.out.trans (hb5.mono HS5.out))
              clear h5 hb5
              go_wp2_with fail
              with_reducible refine I5.mono ?_
              rintro e w5' ⟨rfl, hw⟩
              obtain rfl : w5 = w5' := hw
              have B6 := Lib.hid (B4.out.trans (S5.out.mono B4.out.size))
              have c2 := (G3.out.below B6.out).soft LN.out a
              go_wp2_with fail
              refine c2.mono ?_
              rintro e w6 ⟨v6, rfl, h6, hb6⟩
              obtain ⟨p6, n6, k6, rfl⟩ := own_form h6
              have I6 := lawIn w6 _ _ b (Nums.of_own h6)
              have S6 := Lib.hid (S5.out.trans (hb6.mono S5.out.size))
              rw [F1.out.2] at I6
              obtain ⟨d, hd⟩ : ∃ d, d = decide (a ∈ nearD E b true) := ⟨_, rfl⟩
              rw [← hd] at I6
              have HD := Lib.hid hd
              clear h6 hb6 hd
              go_wp2_with fail
              with_reducible refine I6.mono ?_
              rintro e w6' ⟨rfl, hw⟩
              obtain rfl : w6 = w6' := hw
              have B7 := Lib.hid (B4.out.trans (S6.out.mono B4.out.size))
              have c3 := (G3.out.below B7.out).soft LN.out b
              go_wp2_with fail
              refine c3.mono ?_
              rintro e w7 ⟨v7, rfl, h7, hb7⟩
              obtain ⟨p7, n7, k7, rfl⟩ := own_form h7
              have I7 := lawIn w7 _ _ a (Nums.of_own h7)
              rw [← HD.out] at I7
              have S7 := Lib.hid (S6.out.trans (hb7.mono S6.out.size))
              clear h7 hb7
              go_wp2_with fail
              with_reducible refine I7.mono ?_
              rintro e w7' ⟨rfl, hw⟩
              obtain rfl : w7 = w7' := hw
              go_wp2_with fail
              go_roundg (L4.length - (i4 + 1))
              case measure => omega
              case rel => exact ⟨i4 + 1, rfl, by omega, by go_num, S7.out⟩
            · have B5 := Lib.hid (B4.out.trans (hbl.mono B4.out.size))
              have c1 := (G3.out.below B5.out).reach LN.out a
              have HS5 := Lib.hid B5.out.size
              clear hbl ST
              go_wp2_with fail
              refine c1.mono ?_
              rintro e w6 ⟨v6, rfl, h6, hb6⟩
              obtain ⟨p6, n6, k6, rfl⟩ := own_form h6
              obtain rfl : n6 = (reachD N E a false).length := own_len h6
              have R6 := Lib.hid h6
              have B6 := Lib.hid (B5.out.trans (hb6.mono HS5.out))
              have hl6 : (reachD N E a false).length ≤ 9223372036854775807 := own_short h6
              obtain ⟨L6, hL6⟩ : ∃ L6, L6 = reachD N E a false := ⟨_, rfl⟩
              rw [← hL6] at R6 hl6 ⊢
              have HL6 := Lib.hid hL6
              obtain ⟨wy, rfl⟩ : ∃ wy : World, wy = wr := ⟨_, rfl⟩
              clear h6 hb6 hL6
              go_wp2_with fail
              go_loopg [79] L6.length (fun q i w7 => ∃ i6 : Nat, q = L6.length - i6 ∧ i6 ≤ L6.length ∧ i = .int .i64 i6 ∧ Below w6.heap.size w6 w7)
              case atStart => exact ⟨0, rfl, by omega, rfl, Below.refl _ _⟩
              case round =>
                obtain ⟨i6, rfl, hi6, rfl, hbl⟩ := hrel
                have ST := Lib.hid hbl
                by_cases hlt6 : i6 < L6.length
                · obtain ⟨g6, rfl, hcell6⟩ := row_cell (own_below R6.out hbl) hlt6
                  have hbm : L6[i6] ∈ reachD N E a false := by rw [← HL6.out]; exact List.getElem_mem hlt6
                  obtain ⟨b, hb⟩ : ∃ b, b = L6[i6] := ⟨_, rfl⟩
                  rw [← hb] at hcell6 hbm
                  have F1 := Lib.hid (reach_back EG.out hbm)
                  have B7 := Lib.hid (B6.out.trans (hbl.mono B6.out.size))
                  have c1 := (G3.out.below B7.out).reach LN.out b
                  have HS7 := Lib.hid hbl.size
                  clear hbl hb hbm
                  go_wp2_with fail
                  refine c1.mono ?_
                  rintro e w8 ⟨v8, rfl, h8, hb8⟩
                  obtain ⟨p8, n8, k8, rfl⟩ := own_form h8
                  have I8 := lawIn w8 _ _ a (Nums.of_own h8)
                  rw [decide_eq_true F1.out] at I8
                  have S8 := Lib.hid (ST.out.trans (hb8.mono HS7.out))
                  clear h8 hb8
                  go_wp2_with fail
                  with_reducible refine I8.mono ?_
                  rintro e w8' ⟨rfl, hw⟩
                  obtain rfl : w8 = w8' := hw
                  go_wp2_with fail
                  go_roundg (L6.length - (i6 + 1))
                  case measure => omega
                  case rel => exact ⟨i6 + 1, rfl, by omega, by go_num, S8.out⟩
                · have B7 := Lib.hid (B6.out.trans (hbl.mono B6.out.size))
                  clear hbl ST
                  go_wp2_with fail
                  go_roundg (N.length - (j + 1))
                  case measure => omega
                  case rel => exact ⟨j + 1, rfl, by omega, by go_num, B7.out⟩
        · clear hbl
          go_wp2_with fail
          go_ret
          exact ⟨rfl, BB3.out.trans (ST.out.mono BB3.out.size)⟩

end Go.Proofs.Ytdbeekdnehojnaa
