/-
  graph's law: GraphNeeds.
-/
import Derived.Test.YtdbeekdnehojnaaJ37
namespace Go.Proofs.Ytdbeekdnehojnaa
open Go.RowKit Go.ChangeMaps

theorem cut_needs {N : List Int} {E : Eg} {a b : Int} {e : Int × Int × Bool} (he : e ∈ E) (hn : e.2.2 = true) : e ∈ (cutD N E a b).2 := by
  unfold cutD
  split
  · exact he
  · cases atE E a b with
    | none => exact he
    | some i =>
      simp only []
      split
      · exact he
      · next h =>
        rcases Nat.lt_or_ge i E.length with hi | hi
        · rw [List.getElem?_eq_getElem hi] at h
          simp only [Option.map_some, Option.some.injEq] at h
          have hs : E = E.take i ++ E[i] :: E.drop (i + 1) := by rw [← List.drop_eq_getElem_cons hi, List.take_append_drop]
          rw [hs] at he
          rw [List.eraseIdx_eq_take_drop_succ, List.mem_append]
          rcases List.mem_append.1 he with h1 | h1
          · exact .inl h1
          · rcases List.mem_cons.1 h1 with h1 | h1
            · exact absurd (h1 ▸ hn) h
            · exact .inr h1
        · rw [List.eraseIdx_of_length_le hi]; exact he

theorem needs_way {N : List Int} {E E' : Eg} (h : Egs N E) (h' : Egs N E') (hsub : ∀ e ∈ E, e.2.2 = true → e ∈ E') {k n : Int} (hk : k ∈ N) (hn : n ∈ reachN E true k N.length) : n ∈ reachD N E' k false := by
  rw [mem_reachD h']
  refine ⟨hk, ((mem_reachN h true hk n).1 hn).mono fun a b hab => ?_⟩
  obtain ⟨e, he, hne, h1, h2⟩ := mem_adj hab
  have hnd : e.2.2 = true := by simpa using hne
  have := adj_mem h' (needed := false) (hsub e he hnd) rfl
  rcases Int.le_total a b with hb | hb
  · rw [Int.min_eq_left hb] at h1
    rw [Int.max_eq_right hb] at h2
    rwa [h1, h2] at this
  · rw [Int.min_eq_right hb] at h1
    rw [Int.max_eq_left hb] at h2
    rw [h1, h2] at this
    exact adj_comm this

/-- the program's graph has been cut since; the document's hasn't -/
structure GC (B p m c : Nat) (Q : Gr) (N : List Int) (E E' : Eg) (w : World) : Prop where
  g : GP B p m Q N E' w
  d : ∃ vn ve, DGr w B c N E vn ve
  egs : Egs N E
  sub : ∀ e ∈ E, e.2.2 = true → e ∈ E'

theorem GC.below {B p m c : Nat} {Q : Gr} {N : List Int} {E E' : Eg} {w w' : World} (h : GC B p m c Q N E E' w) (hb : Below w.heap.size w w') : GC B p m c Q N E E' w' := by
  obtain ⟨vn, ve, hd⟩ := h.d
  exact ⟨h.g.below hb, ⟨vn, ve, hd.below hb⟩, h.egs, h.sub⟩

theorem GC.cut {B p m c : Nat} {Q : Gr} {N : List Int} {E E' : Eg} {w : World} (h : GC B p m c Q N E E' w) (x y : Int) :
    Calls Try.prog 12 #[.pointer (some ⟨p, 0, none⟩), .int .u64 x, .int .u64 y] w fun e w1 => e = .returned (.int .i64 (cutD N E' x y).1) ∧ (∃ Q', GC B p m c Q' N E (cutD N E' x y).2 w1) ∧ Below B w w1 := by
  refine (gCut w p m Q x y h.g.g).mono ?_
  rintro e w1 ⟨rfl, hg, hm⟩
  obtain ⟨h1, h2, h3⟩ := h.g.rel.cut x y
  obtain ⟨vn, ve, hd⟩ := h.d
  have := h.g.to h3 h2 hg hm
  exact ⟨by rw [h1], ⟨_, ⟨this.1, ⟨vn, ve, hd.maps hm h.g.g.blocks_map⟩, h.egs, fun e he hn => cut_needs (h.sub e he hn) hn⟩⟩, Turn.low this.2 h.g.big⟩


set_option maxRecDepth 100000 in
set_option maxHeartbeats 8000000 in
theorem graphNeeds (l l2 : List (Int × Int × Int)) (v v2 : Value) (w : World) (hS : ScriptO w v l) (hf : ∀ r ∈ l, 0 ≤ r.1 ∧ r.1 ≤ 255) (hS2 : ScriptO w v2 l2) : Law 3 #[v, v2] w := by
  unfold Law
  obtain ⟨sp2, cap2, rfl, hcap2, hbig2, hc2⟩ := hS2
  have HC2 := Lib.hid hc2
  clear hc2
  obtain ⟨sp, cap, rfl, hcap, hbig, hc⟩ := hS
  have hl : l.length ≤ 9223372036854775807 := by omega
  have HC := Lib.hid hc
  have HF := Lib.hid hf
  have AW := Lib.hid (lawAwake w)
  clear hcap hbig hc hf
  go_enter Try.func3, Try.ntmps3
  go_wp2_with fail
  with_reducible refine AW.out.mono ?_
  rintro e w0 ⟨rfl, hb0⟩
  have B0 := Lib.hid hb0
  clear hb0 AW
  go_wp2_with fail
  with_reducible refine (newNone w0).mono ?_
  rintro e w1 ⟨p, m, Q0, rfl, hG, hb1⟩
  have G0 := Lib.hid (GS.start hG)
  have B1 := Lib.hid (hb1.alloc hb1.size (.cells #[.slice none 0 0, .slice none 0 0] 30))
  obtain ⟨c, hcc⟩ : ∃ c, c = w1.heap.size := ⟨_, rfl⟩
  rw [← hcc] at G0
  clear hG hb1
  go_wp2_with fail
  rw [← hcc]
  obtain ⟨W2, hW2⟩ : ∃ W2, W2 = w1.alloc (.cells #[.slice none 0 0, .slice none 0 0] 30) := ⟨_, rfl⟩
  rw [← hW2] at G0 B1 ⊢
  clear hW2 hcc
  go_loopg [22] l.length (fun q i wr => ∃ (j : Nat) (Q : Gr) (N : List Int) (E : Eg), q = l.length - j ∧ j ≤ l.length ∧ i = .int .i64 j ∧ GS w0.heap.size p m c Q N E wr ∧ Below w0.heap.size w0 wr ∧ N.length ≤ min j 60 ∧ E.length ≤ min j 60)
  case atStart => exact ⟨0, Q0, [], [], rfl, by omega, rfl, G0.out, B1.out, by simp, by simp⟩
  case round =>
    obtain ⟨j, Q, N, E, rfl, hj, rfl, hG, hbl, hnl, hel⟩ := hrel
    have ST := Lib.hid (And.intro hG (And.intro hbl (And.intro hnl hel)))
    have BW := Lib.hid (B0.out.trans (hbl.mono B0.out.size))
    by_cases hlt : j < l.length
    · obtain ⟨b, off, rfl, q0, q1, q2⟩ := HC.out j hlt
      have d0 := below_cells BW.out q0
      have d1 := below_cells BW.out q1
      have d2 := below_cells BW.out q2
      have hf0 := HF.out _ (List.getElem_mem hlt)
      obtain ⟨⟨a, x, y⟩, ho⟩ : ∃ o, o = l[j] := ⟨_, rfl⟩
      rw [← ho] at d0 d1 d2 hf0
      obtain ⟨Wa, hWa⟩ : ∃ Wa, Wa = wr.alloc (.cells #[.int .u8 a, .int .u64 x, .int .u64 y] 33) := ⟨_, rfl⟩
      have ba : Below wr.heap.size wr Wa := by rw [hWa]; exact (Below.refl _ _).alloc (Nat.le_refl _) _
      have GA := Lib.hid (hG.below ba)
      have DO := Lib.hid (lawDo Wa w0.heap.size p m c Q N E a x y GA.out (by omega) (by omega) hf0)
      have BA := Lib.hid (hbl.trans (ba.mono hG.big))
      have HWA := Lib.hid hWa
      clear q0 q1 q2 ho hf0 hWa ba hG hbl hnl hel
      by_cases h60 : j < 60
      · go_wp2_with fail
        rw [← HWA.out]
        with_reducible refine DO.out.mono ?_
        rintro e w5 ⟨rfl, Q', hG5, hm5⟩
        have N5 := Lib.hid (And.intro hG5 (BA.out.trans (Turn.low hm5 GA.out.big)))
        clear hG5 hm5
        go_wp2_with fail
        go_roundg (l.length - (j + 1))
        case measure => omega
        case rel => exact ⟨j + 1, Q', _, _, rfl, by omega, by go_num, N5.out.1, N5.out.2, by have h1 := doN_len N a x; have h2 := ST.out.2.2.1; omega, by have h1 := doE_len N E a x y; have h2 := ST.out.2.2.2; omega⟩
      · go_wp2_with fail
        rw [← HWA.out]
        go_roundg (l.length - (j + 1))
        case measure => omega
        case rel => exact ⟨j + 1, Q, N, E, rfl, by omega, by go_num, GA.out, BA.out, by have h2 := ST.out.2.2.1; omega, by have h2 := ST.out.2.2.2; omega⟩
    · obtain ⟨w2, hw2⟩ : ∃ w2, w2 = wr := ⟨_, rfl⟩
      rw [← hw2] at hG hbl BW ⊢
      have hN6 : N.length ≤ 60 := by omega
      have hE6 : E.length ≤ 60 := by omega
      have GG := Lib.hid hG
      have BB := Lib.hid hbl
      clear ST HC HF hw2 hG hbl hnl hel
      have hl2 : l2.length ≤ 9223372036854775807 := by omega
      have C0 := Lib.hid (show GC w0.heap.size p m c Q N E E w2 from ⟨GG.out.gp, GG.out.d, GG.out.rel.egs, fun _ h _ => h⟩)
      have BB2 := Lib.hid BB.out
      clear GG BB
      go_wp2_with fail
      go_loopg [39] l2.length (fun q i wr => ∃ (j : Nat) (Q : Gr) (E' : Eg), q = l2.length - j ∧ j ≤ l2.length ∧ i = .int .i64 j ∧ GC w0.heap.size p m c Q N E E' wr ∧ Below w0.heap.size w0 wr)
      case atStart => exact ⟨0, Q, E, rfl, by omega, rfl, C0.out, BB2.out⟩
      case round =>
        obtain ⟨j, Q, E', rfl, hj, rfl, hG, hbl⟩ := hrel
        have BW := Lib.hid (B0.out.trans (hbl.mono B0.out.size))
        by_cases hlt : j < l2.length
        · obtain ⟨b, off, rfl, q0, q1, q2⟩ := HC2.out j hlt
          have d0 := below_cells BW.out q0
          have d1 := below_cells BW.out q1
          have d2 := below_cells BW.out q2
          obtain ⟨⟨a, x, y⟩, ho⟩ : ∃ o, o = l2[j] := ⟨_, rfl⟩
          rw [← ho] at d0 d1 d2
          obtain ⟨Wa, hWa⟩ : ∃ Wa, Wa = wr.alloc (.cells #[.int .u8 a, .int .u64 x, .int .u64 y] 33) := ⟨_, rfl⟩
          have ba : Below wr.heap.size wr Wa := by rw [hWa]; exact (Below.refl _ _).alloc (Nat.le_refl _) _
          have bx : Wa.heap[wr.heap.size]? = some (.cells #[.int .u8 a, .int .u64 x, .int .u64 y] 33 (0, 0)) := by rw [hWa]; exact heap_alloc_new _ _
          have GA := Lib.hid (hG.below ba)
          have CU := Lib.hid (GA.out.cut x y)
          have BA := Lib.hid (hbl.trans (ba.mono hG.g.big))
          have HWA := Lib.hid hWa
          clear q0 q1 q2 ho hWa ba hG hbl
          by_cases h60 : j < 60
          · have z1 := cells_get bx 1
            have z2 := cells_get bx 2
            go_wp2_with fail
            rw [← HWA.out]
            with_reducible refine CU.out.mono ?_
            rintro e w5 ⟨rfl, ⟨Q', hG5⟩, hm5⟩
            have N5 := Lib.hid (And.intro hG5 (BA.out.trans hm5))
            clear hG5 hm5
            go_wp2_with fail
            go_roundg (l2.length - (j + 1))
            case measure => omega
            case rel => exact ⟨j + 1, Q', _, rfl, by omega, by go_num, N5.out.1, N5.out.2⟩
          · go_wp2_with fail
            rw [← HWA.out]
            go_roundg (l2.length - (j + 1))
            case measure => omega
            case rel => exact ⟨j + 1, Q, E', rfl, by omega, by go_num, GA.out, BA.out⟩
        · obtain ⟨w3, hw3⟩ : ∃ w3, w3 = wr := ⟨_, rfl⟩
          rw [← hw3] at hG hbl BW ⊢
          have GG := Lib.hid hG
          have BB := Lib.hid BW.out
          obtain ⟨vn, ve, hd⟩ := hG.d
          obtain ⟨p3, n3, k3, rfl⟩ := own_form hd.nodes
          obtain rfl : n3 = N.length := own_len hd.nodes
          have c0 := hd.get0
          have R3 := Lib.hid hd.nodes
          have HD := Lib.hid hd
          have hlN : N.length ≤ 9223372036854775807 := by omega
          have hE4 : E.length ≤ 400000 := by omega
          have LN := Lib.hid (show N.length ≤ 100000 from by omega)
          clear hG hbl hd hw3 BW HC2 C0 hN6 hE6
          go_wp2_with fail
          go_loopg [58] N.length (fun q i w4 => ∃ j : Nat, q = N.length - j ∧ j ≤ N.length ∧ i = .int .i64 j ∧ Below w3.heap.size w3 w4)
          case atStart => exact ⟨0, rfl, by omega, rfl, Below.refl _ _⟩
          case round =>
            obtain ⟨j, rfl, hj, rfl, hbl⟩ := hrel
            have ST := Lib.hid hbl
            by_cases hlt : j < N.length
            · obtain ⟨g, rfl, hcell⟩ := row_cell (own_below R3.out hbl) hlt
              have hkm : N[j] ∈ N := List.getElem_mem hlt
              obtain ⟨k, hk⟩ : ∃ k, k = N[j] := ⟨_, rfl⟩
              rw [← hk] at hcell hkm
              have c1 := dReach wr w0.heap.size c N E _ _ k true (HD.out.below hbl) hkm hE4
              have HS := Lib.hid hbl.size
              have KM := Lib.hid hkm
              clear hbl hk hkm
              go_wp2_with fail
              refine c1.mono ?_
              rintro e w4 ⟨v4, rfl, h4, hb4⟩
              obtain ⟨p4, n4, k4, rfl⟩ := own_form h4
              obtain rfl : n4 = (reachN E true k N.length).length := own_len h4
              have R4 := Lib.hid h4
              have B4 := Lib.hid (ST.out.trans (hb4.mono HS.out))
              have hl4 : (reachN E true k N.length).length ≤ 9223372036854775807 := own_short h4
              obtain ⟨L4, hL4⟩ : ∃ L4, L4 = reachN E true k N.length := ⟨_, rfl⟩
              rw [← hL4] at R4 hl4 ⊢
              have HL4 := Lib.hid hL4
              obtain ⟨wx, rfl⟩ : ∃ wx : World, wx = wr := ⟨_, rfl⟩
              clear h4 hb4 hL4 ST
              go_wp2_with fail
              go_loopg [66] L4.length (fun q i w5 => ∃ i4 : Nat, q = L4.length - i4 ∧ i4 ≤ L4.length ∧ i = .int .i64 i4 ∧ Below w4.heap.size w4 w5)
              case atStart => exact ⟨0, rfl, by omega, rfl, Below.refl _ _⟩
              case round =>
                obtain ⟨i4, rfl, hi4, rfl, hbl⟩ := hrel
                have ST := Lib.hid hbl
                by_cases hlt4 : i4 < L4.length
                · obtain ⟨g4, rfl, hcell4⟩ := row_cell (own_below R4.out hbl) hlt4
                  have hbm : L4[i4] ∈ reachN E true k N.length := by rw [← HL4.out]; exact List.getElem_mem hlt4
                  obtain ⟨n, hn⟩ : ∃ n, n = L4[i4] := ⟨_, rfl⟩
                  rw [← hn] at hcell4 hbm
                  have F1 := Lib.hid (needs_way GG.out.egs GG.out.g.rel.egs GG.out.sub KM.out hbm)
                  have B5 := Lib.hid (B4.out.trans (hbl.mono B4.out.size))
                  have c1 := (GG.out.g.below B5.out).reach LN.out k
                  have HS5 := Lib.hid hbl.size
                  clear hbl hn hbm
                  go_wp2_with fail
                  refine c1.mono ?_
                  rintro e w5 ⟨v5, rfl, h5, hb5⟩
                  obtain ⟨p5, n5, k5, rfl⟩ := own_form h5
                  have I5 := lawIn w5 _ _ n (Nums.of_own h5)
                  rw [decide_eq_true F1.out] at I5
                  have S5 := Lib.hid (ST.out.trans (hb5.mono HS5.out))
                  clear h5 hb5
                  go_wp2_with fail
                  with_reducible refine I5.mono ?_
                  rintro e w5' ⟨rfl, hw⟩
                  obtain rfl : w5 = w5' := hw
                  go_wp2_with fail
                  go_roundg (L4.length - (i4 + 1))
                  case measure => omega
                  case rel => exact ⟨i4 + 1, rfl, by omega, by go_num, S5.out⟩
                · have B7 := Lib.hid (B4.out.trans (hbl.mono B4.out.size))
                  clear hbl ST
                  go_wp2_with fail
                  go_roundg (N.length - (j + 1))
                  case measure => omega
                  case rel => exact ⟨j + 1, rfl, by omega, by go_num, B7.out⟩
            · clear hbl
              go_wp2_with fail
              go_ret
              exact ⟨rfl, BB.out.trans (ST.out.mono BB.out.size)⟩

end Go.Proofs.Ytdbeekdnehojnaa
