/-
  graph's law: GraphJoins.
-/
import Derived.Test.YtdbeekdnehojnaaJ39
namespace Go.Proofs.Ytdbeekdnehojnaa
open Go.RowKit Go.ChangeMaps


set_option maxRecDepth 100000 in
set_option maxHeartbeats 8000000 in
theorem graphJoins (l : List (Int × Int × Int)) (v : Value) (a b : Int) (w : World) (hS : ScriptO w v l) (hf : ∀ r ∈ l, 0 ≤ r.1 ∧ r.1 ≤ 255) : Law 4 #[v, .int .u64 a, .int .u64 b] w := by
  unfold Law
  obtain ⟨sp, cap, rfl, hcap, hbig, hc⟩ := hS
  have hl : l.length ≤ 9223372036854775807 := by omega
  have HC := Lib.hid hc
  have HF := Lib.hid hf
  have AW := Lib.hid (lawAwake w)
  clear hcap hbig hc hf
  go_enter Try.func4, Try.ntmps4
  go_wp2_with fail
  with_reducible refine AW.out.mono ?_
  rintro e w0 ⟨rfl, hb0⟩
  have B0 := Lib.hid hb0
  clear hb0 AW
  go_wp2_with fail
  with_reducible refine (newNone w0).mono ?_
  rintro e w1 ⟨p, m, Q0, rfl, hG, hb1⟩
  have G0 := Lib.hid (GS.start hG)
  have B1 := Lib.hid (hb1.alloc hb1.size (.cells #[.slice none 0 0, .slice none 0 0] 30))
  obtain ⟨c, hcc⟩ : ∃ c, c = w1.heap.size := ⟨_, rfl⟩
  rw [← hcc] at G0
  clear hG hb1
  go_wp2_with fail
  rw [← hcc]
  obtain ⟨W2, hW2⟩ : ∃ W2, W2 = w1.alloc (.cells #[.slice none 0 0, .slice none 0 0] 30) := ⟨_, rfl⟩
  rw [← hW2] at G0 B1 ⊢
  clear hW2 hcc
  go_loopg [24] l.length (fun q i wr => ∃ (j : Nat) (Q : Gr) (N : List Int) (E : Eg), q = l.length - j ∧ j ≤ l.length ∧ i = .int .i64 j ∧ GS w0.heap.size p m c Q N E wr ∧ Below w0.heap.size w0 wr ∧ N.length ≤ min j 60 ∧ E.length ≤ min j 60)
  case atStart => exact ⟨0, Q0, [], [], rfl, by omega, rfl, G0.out, B1.out, by simp, by simp⟩
  case round =>
    obtain ⟨j, Q, N, E, rfl, hj, rfl, hG, hbl, hnl, hel⟩ := hrel
    have ST := Lib.hid (And.intro hG (And.intro hbl (And.intro hnl hel)))
    have BW := Lib.hid (B0.out.trans (hbl.mono B0.out.size))
    by_cases hlt : j < l.length
    · obtain ⟨b, off, rfl, q0, q1, q2⟩ := HC.out j hlt
      have d0 := below_cells BW.out q0
      have d1 := below_cells BW.out q1
      have d2 := below_cells BW.out q2
      have hf0 := HF.out _ (List.getElem_mem hlt)
      obtain ⟨⟨a, x, y⟩, ho⟩ : ∃ o, o = l[j] := ⟨_, rfl⟩
      rw [← ho] at d0 d1 d2 hf0
      obtain ⟨Wa, hWa⟩ : ∃ Wa, Wa = wr.alloc (.cells #[.int .u8 a, .int .u64 x, .int .u64 y] 33) := ⟨_, rfl⟩
      have ba : Below wr.heap.size wr Wa := by rw [hWa]; exact (Below.refl _ _).alloc (Nat.le_refl _) _
      have GA := Lib.hid (hG.below ba)
      have DO := Lib.hid (lawDo Wa w0.heap.size p m c Q N E a x y GA.out (by omega) (by omega) hf0)
      have BA := Lib.hid (hbl.trans (ba.mono hG.big))
      have HWA := Lib.hid hWa
      clear q0 q1 q2 ho hf0 hWa ba hG hbl hnl hel
      by_cases h60 : j < 60
      · go_wp2_with fail
        rw [← HWA.out]
        with_reducible refine DO.out.mono ?_
        rintro e w5 ⟨rfl, Q', hG5, hm5⟩
        have N5 := Lib.hid (And.intro hG5 (BA.out.trans (Turn.low hm5 GA.out.big)))
        clear hG5 hm5
        go_wp2_with fail
        go_roundg (l.length - (j + 1))
        case measure => omega
        case rel => exact ⟨j + 1, Q', _, _, rfl, by omega, by go_num, N5.out.1, N5.out.2, by have h1 := doN_len N a x; have h2 := ST.out.2.2.1; omega, by have h1 := doE_len N E a x y; have h2 := ST.out.2.2.2; omega⟩
      · go_wp2_with fail
        rw [← HWA.out]
        go_roundg (l.length - (j + 1))
        case measure => omega
        case rel => exact ⟨j + 1, Q, N, E, rfl, by omega, by go_num, GA.out, BA.out, by have h2 := ST.out.2.2.1; omega, by have h2 := ST.out.2.2.2; omega⟩
    · obtain ⟨w2, hw2⟩ : ∃ w2, w2 = wr := ⟨_, rfl⟩
      rw [← hw2] at hG hbl BW ⊢
      have hN6 : N.length ≤ 60 := by omega
      have hE6 : E.length ≤ 60 := by omega
      have GG := Lib.hid hG
      have BB := Lib.hid hbl
      clear ST HC HF hw2 hG hbl hnl hel
      have EG := Lib.hid (GG.out.rel.egs)
      have GP2 := Lib.hid GG.out.gp
      have LN := Lib.hid (show N.length ≤ 100000 from by omega)
      have B2 := Lib.hid BB.out
      have c3 := GP2.out.reach LN.out a
      have hB2 := GG.out.big
      have HW0 := Lib.hid hB2
      have NS := Lib.hid hN6
      clear GG BB hN6 hE6
      go_wp2_with fail
      refine c3.mono ?_
      rintro e w3 ⟨v3, rfl, h3, hb3⟩
      obtain ⟨p3, n3, k3, rfl⟩ := own_form h3
      obtain rfl : n3 = (reachD N E a false).length := own_len h3
      have G3 := Lib.hid (GP2.out.below hb3)
      have s23 := hb3.size
      have B3 := Lib.hid (B2.out.trans (hb3.mono hB2))
      have R3 := Lib.hid h3
      have c4 := G3.out.reach LN.out b
      clear h3 hb3
      go_wp2_with fail
      refine c4.mono ?_
      rintro e w4 ⟨v4, rfl, h4, hb4⟩
      obtain ⟨p4, n4, k4, rfl⟩ := own_form h4
      obtain rfl : n4 = (reachD N E b false).length := own_len h4
      have G4 := Lib.hid (G3.out.below hb4)
      have B4 := Lib.hid (B3.out.trans (hb4.mono B3.out.size))
      have R34 := Lib.hid (And.intro (own_below R3.out hb4) h4)
      have c5 := G4.out.bind a b
      have SZ := Lib.hid (show w2.heap.size ≤ w3.heap.size ∧ w3.heap.size ≤ w4.heap.size from ⟨s23, hb4.size⟩)
      clear h4 hb4
      go_wp2_with fail
      refine c5.mono ?_
      rintro e w5 ⟨rfl, ⟨Q5, hG5⟩, hm5⟩
      rcases bind_code (N := N) (E := E) (a := a) (b := b) with ⟨hp, hz⟩ | ⟨hp, hz⟩ | ⟨hp, hz⟩
      · rw [hz]
        obtain ⟨hab, ha, hb⟩ := pairD_ok hp
        have G5 := Lib.hid hG5
        have JO := Lib.hid (show ∀ N2, Egs N2 (bindD N E a b).2 → b ∈ N2 → Joins N N2 E (bindD N E a b).2 a b from fun N2 h2 hb2 => joins EG.out G5.out.rel.egs h2 ha hb hb2 (bind_adj EG.out hp))
        have SELF := Lib.hid (show a ∈ reachD N E a false from (mem_reachD EG.out).2 ⟨ha, .here⟩)
        have HBN := Lib.hid hb
        have B5 := Lib.hid (B4.out.trans (Turn.low hm5 B4.out.size))
        have RP := Lib.hid (own_turn hm5 R34.out.1)
        have RQ := Lib.hid (own_turn hm5 R34.out.2)
        have S5 := Lib.hid hm5.size
        have c6 := G5.out.reach LN.out a
        clear hG5 hm5 hab ha hb hp hz
        go_wp2_with fail
        refine c6.mono ?_
        rintro e w6 ⟨v6, rfl, h6, hb6⟩
        obtain ⟨p6, n6, k6, rfl⟩ := own_form h6
        obtain rfl : n6 = (reachD N (bindD N E a b).2 a false).length := own_len h6
        have rp := own_below RP.out hb6
        have rq := own_below RQ.out hb6
        have B6 := Lib.hid (B5.out.trans (hb6.mono B5.out.size))
        have lp := reachD_len EG.out a false
        have lq := reachD_len EG.out b false
        have lN := LN.out
        have s6 := hb6.size
        have sz := SZ.out
        have s5 := S5.out
        obtain ⟨q7, n7, k7, w7, hrun7, hr7, hg7, -⟩ := run_app rowU rp (by omega) (SrcAt.of_own rq) one_nums (by simp only [maxLen]; omega) (by omega)
        obtain rfl : n7 = (reachD N E a false).length + (reachD N E b false).length := own_len hr7
        have G7 := Lib.hid ((G5.out.below hb6).grown hg7 (fun b hb => own_type rp hb))
        have R6 := Lib.hid (h6.kept hg7 (.inr fun e => by
          rcases h6.2 with ⟨he, h0⟩ | ⟨gg, cc, cu, he, -⟩
          · have hm := (JO.out N G5.out.rel.egs HBN.out).all a (List.mem_append_left _ SELF.out)
            rw [List.eq_nil_of_length_eq_zero h0] at hm
            cases hm
          · rw [he] at e
            have h1 := (h6.lt gg (by rw [he]; rfl)).1
            have h2 := (RP.out.lt gg e.symm).2
            omega))
        have hr7' : w7.ownsRow w2.heap.size 31 1 (.slice q7 ((reachD N E a false).length + (reachD N E b false).length) k7) ((reachD N E a false).length + (reachD N E b false).length) ((reachD N E a false ++ reachD N E b false).map (Value.int .u64)) := by rw [List.map_append]; exact hr7
        have R7 := Lib.hid (And.intro hr7' (B6.out.grown hg7 B6.out.size (fun b hb => Nat.le_trans HW0.out (rp.lt b hb).1)))
        have hl9 : (reachD N E a false).length + (reachD N E b false).length ≤ 9223372036854775807 := by omega
        clear h6 hb6 rp rq hr7 hr7' hg7 lp lq s6 sz s5
        go_wp2_with (refine wpList_append_eq hrun7 rfl _ _ rfl rfl rfl ?_)
        go_loopg [83] ((reachD N E a false).length + (reachD N E b false).length) (fun q i w8 => ∃ j : Nat, q = (reachD N E a false).length + (reachD N E b false).length - j ∧ j ≤ (reachD N E a false).length + (reachD N E b false).length ∧ i = .int .i64 j ∧ w8 = w7)
        case atStart => exact ⟨0, rfl, by omega, rfl, rfl⟩
        case round =>
          obtain ⟨j, rfl, hj, rfl, hw8⟩ := hrel
          obtain rfl : w7 = wr := hw8.symm
          have hlpq : (reachD N E a false ++ reachD N E b false).length = (reachD N E a false).length + (reachD N E b false).length := List.length_append
          by_cases hlt : j < (reachD N E a false).length + (reachD N E b false).length
          · obtain ⟨g, rfl, hcell⟩ := row_cell R7.out.1 (j := j) (by omega)
            have hkm : (reachD N E a false ++ reachD N E b false)[j]'(by omega) ∈ reachD N E a false ++ reachD N E b false := List.getElem_mem _
            obtain ⟨k, hk⟩ : ∃ k, k = (reachD N E a false ++ reachD N E b false)[j]'(by omega) := ⟨_, rfl⟩
            rw [← hk] at hcell hkm
            have I8 := lawIn w7 _ _ k (Nums.of_own R6.out)
            rw [decide_eq_true ((JO.out N G5.out.rel.egs HBN.out).all k hkm)] at I8
            clear hk hkm hlpq
            go_wp2_with fail
            with_reducible refine I8.mono ?_
            rintro e w8 ⟨rfl, hw⟩
            obtain rfl : w7 = w8 := hw
            go_wp2_with fail
            go_roundg ((reachD N E a false).length + (reachD N E b false).length - (j + 1))
            case measure => omega
            case rel => exact ⟨j + 1, rfl, by omega, by go_num, rfl⟩
          · have c8 := G7.out.keys LN.out
            clear hlpq
            go_wp2_with fail
            refine c8.mono ?_
            rintro e w8 ⟨v8, rfl, h8, hb8⟩
            obtain ⟨p8, n8, k8, rfl⟩ := own_form h8
            have I8 := lawIn w8 _ _ 1125899906842624 (Nums.of_own h8)
            have G8 := Lib.hid (G7.out.below hb8)
            have B8 := Lib.hid hb8
            clear h8 hb8
            by_cases hK : (1125899906842624 : Int) ∈ N
            · rw [decide_eq_true hK] at I8
              clear hK
              go_wp2_with fail
              with_reducible refine I8.mono ?_
              rintro e w8' ⟨rfl, hw⟩
              obtain rfl : w8 = w8' := hw
              have hlen : (reachD N (bindD N E a b).2 a false).length ≤ (reachD N E a false).length + (reachD N E b false).length := (JO.out _ G5.out.rel.egs HBN.out).len
              have hsame := (JO.out _ G5.out.rel.egs HBN.out).same
              have lp := reachD_len EG.out a false
              have lq := reachD_len EG.out b false
              have lN := LN.out
              have c11 := G8.out.reach LN.out b
              rw [← hsame] at c11
              have RX := Lib.hid (own_below R6.out B8.out)
              obtain ⟨np, hnp⟩ : ∃ np, np = (reachD N E a false).length := ⟨_, rfl⟩
              obtain ⟨nq, hnq⟩ : ∃ nq, nq = (reachD N E b false).length := ⟨_, rfl⟩
              obtain ⟨AL, hAL⟩ : ∃ AL, AL = reachD N (bindD N E a b).2 a false := ⟨_, rfl⟩
              rw [← hnp, ← hnq, ← hAL] at hlen
              rw [← hAL] at c11 RX
              rw [← hnp] at lp
              rw [← hnq] at lq
              rw [← hnp, ← hnq, ← hAL]
              have hw1 : IntKind.i64.wrap ((np : Int) + (nq : Int)) = (np : Int) + (nq : Int) := by simp [IntKind.wrap, IntKind.signed, IntKind.bits] <;> omega
              have hle : (AL.length : Int) ≤ (np : Int) + (nq : Int) := by omega
              have hle' : decide ((AL.length : Int) ≤ (np : Int) + (nq : Int)) = true := decide_eq_true hle
              have hle2 : AL.length ≤ np + nq := hlen
              have BE := Lib.hid (R7.out.2.trans (B8.out.mono R7.out.2.size))
              clear hnp hnq hAL hlen hsame lp lq
              go_wp2_with fail
              refine c11.mono ?_
              rintro e w11 ⟨v11, rfl, h11, hb11⟩
              obtain ⟨p11, n11, k11, rfl⟩ := own_form h11
              have sn := sameNums AL AL _ _ w11 (Nums.of_own (own_below RX.out hb11)) (Nums.of_own h11)
              rw [decide_eq_true rfl] at sn
              have B11 := Lib.hid (BE.out.trans (hb11.mono BE.out.size))
              clear h11 hb11
              go_wp2_with fail
              refine sn.mono ?_
              rintro e w12 ⟨rfl, hd⟩
              have B12 := Lib.hid (B0.out.trans ((B11.out.trans (hd.below.mono B11.out.size)).mono B0.out.size))
              clear hd
              go_wp2_with fail
              go_ret
              exact ⟨rfl, B12.out⟩
            · rw [decide_eq_false hK] at I8
              have HK := Lib.hid hK
              have c9 := G8.out.add 1125899906842624
              rw [show addD N 1125899906842624 = (0, putZ N 1125899906842624) from by unfold addD; rw [if_neg hK]] at c9
              have hsz8 : w0.heap.size ≤ w8.heap.size := G8.out.big
              clear hK
              go_wp2_with fail
              with_reducible refine I8.mono ?_
              rintro e w8' ⟨rfl, hw⟩
              obtain rfl : w8 = w8' := hw
              go_wp2_with fail
              with_reducible refine c9.mono ?_
              rintro e w9 ⟨rfl, ⟨Q9, hG9⟩, hm9⟩
              have G9 := Lib.hid hG9
              have NL9 := Lib.hid (show (putZ N 1125899906842624).length ≤ 100000 from by rw [putZ_length]; have := NS.out; omega)
              have c10 := hG9.reach NL9.out 1125899906842624
              rw [reach_alone G8.out.rel.egs HK.out hG9.rel.egs] at c10
              have R9 := Lib.hid (own_turn hm9 (own_below R6.out B8.out))
              have B9 := Lib.hid ((R7.out.2.trans (B8.out.mono R7.out.2.size)).trans (Turn.low hm9 hsz8))
              clear hG9 hm9
              go_wp2_with fail
              refine c10.mono ?_
              rintro e w10 ⟨v10, rfl, h10, hb10⟩
              obtain ⟨p10, n10, k10, rfl⟩ := own_form h10
              obtain rfl : n10 = 1 := own_len h10
              have G10 := Lib.hid (G9.out.below hb10)
              have B10 := Lib.hid hb10
              replace R6 := R9
              replace R7 := Lib.hid (And.intro R7.out.1 B9.out)
              clear h10 hb10
              have hlen : (reachD N (bindD N E a b).2 a false).length ≤ (reachD N E a false).length + (reachD N E b false).length := (JO.out _ G9.out.rel.egs (mem_putZ.2 (.inr HBN.out))).len
              have hsame := (JO.out _ G9.out.rel.egs (mem_putZ.2 (.inr HBN.out))).same
              have lp := reachD_len EG.out a false
              have lq := reachD_len EG.out b false
              have lN := LN.out
              have c11 := G10.out.reach NL9.out b
              rw [← hsame] at c11
              have RX := Lib.hid (own_below R6.out B10.out)
              obtain ⟨np, hnp⟩ : ∃ np, np = (reachD N E a false).length := ⟨_, rfl⟩
              obtain ⟨nq, hnq⟩ : ∃ nq, nq = (reachD N E b false).length := ⟨_, rfl⟩
              obtain ⟨AL, hAL⟩ : ∃ AL, AL = reachD N (bindD N E a b).2 a false := ⟨_, rfl⟩
              rw [← hnp, ← hnq, ← hAL] at hlen
              rw [← hAL] at c11 RX
              rw [← hnp] at lp
              rw [← hnq] at lq
              rw [← hnp, ← hnq, ← hAL]
              have hw1 : IntKind.i64.wrap ((np : Int) + (nq : Int)) = (np : Int) + (nq : Int) := by simp [IntKind.wrap, IntKind.signed, IntKind.bits] <;> omega
              have hle : (AL.length : Int) ≤ (np : Int) + (nq : Int) := by omega
              have hle' : decide ((AL.length : Int) ≤ (np : Int) + (nq : Int)) = true := decide_eq_true hle
              have hle2 : AL.length ≤ np + nq := hlen
              have BE := Lib.hid (R7.out.2.trans (B10.out.mono R7.out.2.size))
              clear hnp hnq hAL hlen hsame lp lq
              go_wp2_with fail
              refine c11.mono ?_
              rintro e w11 ⟨v11, rfl, h11, hb11⟩
              obtain ⟨p11, n11, k11, rfl⟩ := own_form h11
              have sn := sameNums AL AL _ _ w11 (Nums.of_own (own_below RX.out hb11)) (Nums.of_own h11)
              rw [decide_eq_true rfl] at sn
              have B11 := Lib.hid (BE.out.trans (hb11.mono BE.out.size))
              clear h11 hb11
              go_wp2_with fail
              refine sn.mono ?_
              rintro e w12 ⟨rfl, hd⟩
              have B12 := Lib.hid (B0.out.trans ((B11.out.trans (hd.below.mono B11.out.size)).mono B0.out.size))
              clear hd
              go_wp2_with fail
              go_ret
              exact ⟨rfl, B12.out⟩
      · rw [hz]
        obtain ⟨hab, ha, hb⟩ := pairD_ok hp
        have G5 := Lib.hid hG5
        have JO := Lib.hid (show ∀ N2, Egs N2 (bindD N E a b).2 → b ∈ N2 → Joins N N2 E (bindD N E a b).2 a b from fun N2 h2 hb2 => joins EG.out G5.out.rel.egs h2 ha hb hb2 (bind_adj EG.out hp))
        have SELF := Lib.hid (show a ∈ reachD N E a false from (mem_reachD EG.out).2 ⟨ha, .here⟩)
        have HBN := Lib.hid hb
        have B5 := Lib.hid (B4.out.trans (Turn.low hm5 B4.out.size))
        have RP := Lib.hid (own_turn hm5 R34.out.1)
        have RQ := Lib.hid (own_turn hm5 R34.out.2)
        have S5 := Lib.hid hm5.size
        have c6 := G5.out.reach LN.out a
        clear hG5 hm5 hab ha hb hp hz
        go_wp2_with fail
        refine c6.mono ?_
        rintro e w6 ⟨v6, rfl, h6, hb6⟩
        obtain ⟨p6, n6, k6, rfl⟩ := own_form h6
        obtain rfl : n6 = (reachD N (bindD N E a b).2 a false).length := own_len h6
        have rp := own_below RP.out hb6
        have rq := own_below RQ.out hb6
        have B6 := Lib.hid (B5.out.trans (hb6.mono B5.out.size))
        have lp := reachD_len EG.out a false
        have lq := reachD_len EG.out b false
        have lN := LN.out
        have s6 := hb6.size
        have sz := SZ.out
        have s5 := S5.out
        obtain ⟨q7, n7, k7, w7, hrun7, hr7, hg7, -⟩ := run_app rowU rp (by omega) (SrcAt.of_own rq) one_nums (by simp only [maxLen]; omega) (by omega)
        obtain rfl : n7 = (reachD N E a false).length + (reachD N E b false).length := own_len hr7
        have G7 := Lib.hid ((G5.out.below hb6).grown hg7 (fun b hb => own_type rp hb))
        have R6 := Lib.hid (h6.kept hg7 (.inr fun e => by
          rcases h6.2 with ⟨he, h0⟩ | ⟨gg, cc, cu, he, -⟩
          · have hm := (JO.out N G5.out.rel.egs HBN.out).all a (List.mem_append_left _ SELF.out)
            rw [List.eq_nil_of_length_eq_zero h0] at hm
            cases hm
          · rw [he] at e
            have h1 := (h6.lt gg (by rw [he]; rfl)).1
            have h2 := (RP.out.lt gg e.symm).2
            omega))
        have hr7' : w7.ownsRow w2.heap.size 31 1 (.slice q7 ((reachD N E a false).length + (reachD N E b false).length) k7) ((reachD N E a false).length + (reachD N E b false).length) ((reachD N E a false ++ reachD N E b false).map (Value.int .u64)) := by rw [List.map_append]; exact hr7
        have R7 := Lib.hid (And.intro hr7' (B6.out.grown hg7 B6.out.size (fun b hb => Nat.le_trans HW0.out (rp.lt b hb).1)))
        have hl9 : (reachD N E a false).length + (reachD N E b false).length ≤ 9223372036854775807 := by omega
        clear h6 hb6 rp rq hr7 hr7' hg7 lp lq s6 sz s5
        go_wp2_with (refine wpList_append_eq hrun7 rfl _ _ rfl rfl rfl ?_)
        go_loopg [83] ((reachD N E a false).length + (reachD N E b false).length) (fun q i w8 => ∃ j : Nat, q = (reachD N E a false).length + (reachD N E b false).length - j ∧ j ≤ (reachD N E a false).length + (reachD N E b false).length ∧ i = .int .i64 j ∧ w8 = w7)
        case atStart => exact ⟨0, rfl, by omega, rfl, rfl⟩
        case round =>
          obtain ⟨j, rfl, hj, rfl, hw8⟩ := hrel
          obtain rfl : w7 = wr := hw8.symm
          have hlpq : (reachD N E a false ++ reachD N E b false).length = (reachD N E a false).length + (reachD N E b false).length := List.length_append
          by_cases hlt : j < (reachD N E a false).length + (reachD N E b false).length
          · obtain ⟨g, rfl, hcell⟩ := row_cell R7.out.1 (j := j) (by omega)
            have hkm : (reachD N E a false ++ reachD N E b false)[j]'(by omega) ∈ reachD N E a false ++ reachD N E b false := List.getElem_mem _
            obtain ⟨k, hk⟩ : ∃ k, k = (reachD N E a false ++ reachD N E b false)[j]'(by omega) := ⟨_, rfl⟩
            rw [← hk] at hcell hkm
            have I8 := lawIn w7 _ _ k (Nums.of_own R6.out)
            rw [decide_eq_true ((JO.out N G5.out.rel.egs HBN.out).all k hkm)] at I8
            clear hk hkm hlpq
            go_wp2_with fail
            with_reducible refine I8.mono ?_
            rintro e w8 ⟨rfl, hw⟩
            obtain rfl : w7 = w8 := hw
            go_wp2_with fail
            go_roundg ((reachD N E a false).length + (reachD N E b false).length - (j + 1))
            case measure => omega
            case rel => exact ⟨j + 1, rfl, by omega, by go_num, rfl⟩
          · have c8 := G7.out.keys LN.out
            clear hlpq
            go_wp2_with fail
            refine c8.mono ?_
            rintro e w8 ⟨v8, rfl, h8, hb8⟩
            obtain ⟨p8, n8, k8, rfl⟩ := own_form h8
            have I8 := lawIn w8 _ _ 1125899906842624 (Nums.of_own h8)
            have G8 := Lib.hid (G7.out.below hb8)
            have B8 := Lib.hid hb8
            clear h8 hb8
            by_cases hK : (1125899906842624 : Int) ∈ N
            · rw [decide_eq_true hK] at I8
              clear hK
              go_wp2_with fail
              with_reducible refine I8.mono ?_
              rintro e w8' ⟨rfl, hw⟩
              obtain rfl : w8 = w8' := hw
              have hlen : (reachD N (bindD N E a b).2 a false).length ≤ (reachD N E a false).length + (reachD N E b false).length := (JO.out _ G5.out.rel.egs HBN.out).len
              have hsame := (JO.out _ G5.out.rel.egs HBN.out).same
              have lp := reachD_len EG.out a false
              have lq := reachD_len EG.out b false
              have lN := LN.out
              have c11 := G8.out.reach LN.out b
              rw [← hsame] at c11
              have RX := Lib.hid (own_below R6.out B8.out)
              obtain ⟨np, hnp⟩ : ∃ np, np = (reachD N E a false).length := ⟨_, rfl⟩
              obtain ⟨nq, hnq⟩ : ∃ nq, nq = (reachD N E b false).length := ⟨_, rfl⟩
              obtain ⟨AL, hAL⟩ : ∃ AL, AL = reachD N (bindD N E a b).2 a false := ⟨_, rfl⟩
              rw [← hnp, ← hnq, ← hAL] at hlen
              rw [← hAL] at c11 RX
              rw [← hnp] at lp
              rw [← hnq] at lq
              rw [← hnp, ← hnq, ← hAL]
              have hw1 : IntKind.i64.wrap ((np : Int) + (nq : Int)) = (np : Int) + (nq : Int) := by simp [IntKind.wrap, IntKind.signed, IntKind.bits] <;> omega
              have hle : (AL.length : Int) ≤ (np : Int) + (nq : Int) := by omega
              have hle' : decide ((AL.length : Int) ≤ (np : Int) + (nq : Int)) = true := decide_eq_true hle
              have hle2 : AL.length ≤ np + nq := hlen
              have BE := Lib.hid (R7.out.2.trans (B8.out.mono R7.out.2.size))
              clear hnp hnq hAL hlen hsame lp lq
              go_wp2_with fail
              refine c11.mono ?_
              rintro e w11 ⟨v11, rfl, h11, hb11⟩
              obtain ⟨p11, n11, k11, rfl⟩ := own_form h11
              have sn := sameNums AL AL _ _ w11 (Nums.of_own (own_below RX.out hb11)) (Nums.of_own h11)
              rw [decide_eq_true rfl] at sn
              have B11 := Lib.hid (BE.out.trans (hb11.mono BE.out.size))
              clear h11 hb11
              go_wp2_with fail
              refine sn.mono ?_
              rintro e w12 ⟨rfl, hd⟩
              have B12 := Lib.hid (B0.out.trans ((B11.out.trans (hd.below.mono B11.out.size)).mono B0.out.size))
              clear hd
              go_wp2_with fail
              go_ret
              exact ⟨rfl, B12.out⟩
            · rw [decide_eq_false hK] at I8
              have HK := Lib.hid hK
              have c9 := G8.out.add 1125899906842624
              rw [show addD N 1125899906842624 = (0, putZ N 1125899906842624) from by unfold addD; rw [if_neg hK]] at c9
              have hsz8 : w0.heap.size ≤ w8.heap.size := G8.out.big
              clear hK
              go_wp2_with fail
              with_reducible refine I8.mono ?_
              rintro e w8' ⟨rfl, hw⟩
              obtain rfl : w8 = w8' := hw
              go_wp2_with fail
              with_reducible refine c9.mono ?_
              rintro e w9 ⟨rfl, ⟨Q9, hG9⟩, hm9⟩
              have G9 := Lib.hid hG9
              have NL9 := Lib.hid (show (putZ N 1125899906842624).length ≤ 100000 from by rw [putZ_length]; have := NS.out; omega)
              have c10 := hG9.reach NL9.out 1125899906842624
              rw [reach_alone G8.out.rel.egs HK.out hG9.rel.egs] at c10
              have R9 := Lib.hid (own_turn hm9 (own_below R6.out B8.out))
              have B9 := Lib.hid ((R7.out.2.trans (B8.out.mono R7.out.2.size)).trans (Turn.low hm9 hsz8))
              clear hG9 hm9
              go_wp2_with fail
              refine c10.mono ?_
              rintro e w10 ⟨v10, rfl, h10, hb10⟩
              obtain ⟨p10, n10, k10, rfl⟩ := own_form h10
              obtain rfl : n10 = 1 := own_len h10
              have G10 := Lib.hid (G9.out.below hb10)
              have B10 := Lib.hid hb10
              replace R6 := R9
              replace R7 := Lib.hid (And.intro R7.out.1 B9.out)
              clear h10 hb10
              have hlen : (reachD N (bindD N E a b).2 a false).length ≤ (reachD N E a false).length + (reachD N E b false).length := (JO.out _ G9.out.rel.egs (mem_putZ.2 (.inr HBN.out))).len
              have hsame := (JO.out _ G9.out.rel.egs (mem_putZ.2 (.inr HBN.out))).same
              have lp := reachD_len EG.out a false
              have lq := reachD_len EG.out b false
              have lN := LN.out
              have c11 := G10.out.reach NL9.out b
              rw [← hsame] at c11
              have RX := Lib.hid (own_below R6.out B10.out)
              obtain ⟨np, hnp⟩ : ∃ np, np = (reachD N E a false).length := ⟨_, rfl⟩
              obtain ⟨nq, hnq⟩ : ∃ nq, nq = (reachD N E b false).length := ⟨_, rfl⟩
              obtain ⟨AL, hAL⟩ : ∃ AL, AL = reachD N (bindD N E a b).2 a false := ⟨_, rfl⟩
              rw [← hnp, ← hnq, ← hAL] at hlen
              rw [← hAL] at c11 RX
              rw [← hnp] at lp
              rw [← hnq] at lq
              rw [← hnp, ← hnq, ← hAL]
              have hw1 : IntKind.i64.wrap ((np : Int) + (nq : Int)) = (np : Int) + (nq : Int) := by simp [IntKind.wrap, IntKind.signed, IntKind.bits] <;> omega
              have hle : (AL.length : Int) ≤ (np : Int) + (nq : Int) := by omega
              have hle' : decide ((AL.length : Int) ≤ (np : Int) + (nq : Int)) = true := decide_eq_true hle
              have hle2 : AL.length ≤ np + nq := hlen
              have BE := Lib.hid (R7.out.2.trans (B10.out.mono R7.out.2.size))
              clear hnp hnq hAL hlen hsame lp lq
              go_wp2_with fail
              refine c11.mono ?_
              rintro e w11 ⟨v11, rfl, h11, hb11⟩
              obtain ⟨p11, n11, k11, rfl⟩ := own_form h11
              have sn := sameNums AL AL _ _ w11 (Nums.of_own (own_below RX.out hb11)) (Nums.of_own h11)
              rw [decide_eq_true rfl] at sn
              have B11 := Lib.hid (BE.out.trans (hb11.mono BE.out.size))
              clear h11 hb11
              go_wp2_with fail
              refine sn.mono ?_
              rintro e w12 ⟨rfl, hd⟩
              have B12 := Lib.hid (B0.out.trans ((B11.out.trans (hd.below.mono B11.out.size)).mono B0.out.size))
              clear hd
              go_wp2_with fail
              go_ret
              exact ⟨rfl, B12.out⟩
      · rw [hz]
        have BX := Lib.hid (B0.out.trans ((B4.out.trans (Turn.low hm5 B4.out.size)).mono B0.out.size))
        have hpv : (a = b ∧ pairD N a b = 1) ∨ (a ≠ b ∧ pairD N a b = 6 ∧ (a ∉ N ∨ b ∉ N)) := by
          unfold pairD at hp ⊢
          by_cases hab : a = b
          · exact .inl ⟨hab, if_pos hab⟩
          · rw [if_neg hab] at hp ⊢
            right
            by_cases h2 : a ∈ N ∧ b ∈ N
            · rw [if_pos h2] at hp; exact absurd rfl hp
            · rw [if_neg h2]
              refine ⟨hab, rfl, ?_⟩
              by_cases ha : a ∈ N
              · exact .inr fun hb => h2 ⟨ha, hb⟩
              · exact .inl ha
        rcases hpv with ⟨hab, hp1⟩ | ⟨hab, hp1, hno⟩
        · rw [hp1]
          have b1 : (a == b) = true := by simp [hab]
          clear hp hz hab hp1 hG5 hm5
          go_wp2_with fail
          go_ret
          exact ⟨rfl, BX.out⟩
        · rw [hp1]
          have b1 : (a == b) = false := by simp [hab]
          obtain ⟨np, hnp⟩ : ∃ np, np = (reachD N E a false).length := ⟨_, rfl⟩
          obtain ⟨nq, hnq⟩ : ∃ nq, nq = (reachD N E b false).length := ⟨_, rfl⟩
          rw [← hnp, ← hnq]
          have hnn : np = 0 ∨ (np ≠ 0 ∧ nq = 0) := by
            rcases hno with h1 | h1
            · left; rw [hnp]; unfold reachD; rw [if_neg h1]; rfl
            · by_cases h0 : np = 0
              · exact .inl h0
              · right; refine ⟨h0, ?_⟩; rw [hnq]; unfold reachD; rw [if_neg h1]; rfl
          clear hp hz hab hp1 hG5 hm5 hnp hnq hno
          rcases hnn with rfl | ⟨h0, rfl⟩
          · go_wp2_with fail
            go_ret
            exact ⟨rfl, BX.out⟩
          · have b2 : ((np : Int) == 0) = false := by simp; exact h0
            clear h0
            go_wp2_with fail
            go_ret
            exact ⟨rfl, BX.out⟩

end Go.Proofs.Ytdbeekdnehojnaa
