/-
  graph's law: GraphSides.
-/
import Derived.Test.YtdbeekdnehojnaaJ36
import Derived.Test.YtdbeekdnehojnaaJ35
namespace Go.Proofs.Ytdbeekdnehojnaa
open Go.RowKit Go.ChangeMaps

def sumZ (l : List Int) (f : Int → Nat) : Nat := (l.map f).sum

theorem sumZ_snoc (l : List Int) (f : Int → Nat) (j : Nat) (hj : j < l.length) : sumZ (l.take (j + 1)) f = sumZ (l.take j) f + f l[j] := by
  unfold sumZ
  rw [List.take_add_one, List.getElem?_eq_getElem hj, Option.toList_some, List.map_append, List.sum_append]
  simp

theorem count_two (N : List Int) {a b : Int} (hab : a ≠ b) : N.countP (fun k => decide (k = a ∨ k = b)) = N.count a + N.count b := by
  induction N with
  | nil => rfl
  | cons k N ih =>
    rw [List.countP_cons, List.count_cons, List.count_cons, ih]
    by_cases h1 : k = a
    · subst h1
      simp [hab]
      omega
    · by_cases h2 : k = b
      · subst h2
        simp [h1]
        omega
      · simp [h1, h2]

theorem sum_near {N : List Int} (hN : N.Nodup) (soft : Bool) : ∀ (E : Eg), (∀ e ∈ E, e.1 < e.2.1 ∧ e.1 ∈ N ∧ e.2.1 ∈ N) → sumZ N (fun k => (nearL E k soft).length) = 2 * (E.countP fun e => !(soft && e.2.2))
  | [], _ => by
    unfold sumZ nearL
    have : ∀ N : List Int, (N.map fun k => (List.filterMap (nearO k soft) ([] : Eg)).length).sum = 0 := by
      intro N
      induction N with
      | nil => rfl
      | cons k N ih => simpa using ih
    rw [this]; rfl
  | e :: E, h => by
    have ih := sum_near hN soft E fun f hf => h f (List.mem_cons_of_mem _ hf)
    obtain ⟨h1, h2, h3⟩ := h e (List.mem_cons_self ..)
    have key : ∀ M : List Int, sumZ M (fun k => (nearL (e :: E) k soft).length) = (if (soft && e.2.2) = true then 0 else M.countP fun k => decide (k = e.1 ∨ k = e.2.1)) + sumZ M (fun k => (nearL E k soft).length) := by
      intro M
      induction M with
      | nil => unfold sumZ; split <;> rfl
      | cons k M ihM =>
        unfold sumZ at *
        rw [List.map_cons, List.map_cons, List.sum_cons, List.sum_cons, ihM, List.countP_cons]
        have : (nearL (e :: E) k soft).length = (if (soft && e.2.2) = true then 0 else if decide (k = e.1 ∨ k = e.2.1) = true then 1 else 0) + (nearL E k soft).length := by
          unfold nearL
          rw [List.filterMap_cons]
          by_cases hs : (soft && e.2.2) = true
          · have : nearO k soft e = none := by unfold nearO; rw [if_pos hs]
            rw [this, if_pos hs]; simp
          · rw [if_neg hs]
            by_cases ha : e.1 = k
            · have : nearO k soft e = some e.2.1 := by unfold nearO; rw [if_neg hs, if_pos ha]
              rw [this]; simp [ha]; omega
            · by_cases hb : e.2.1 = k
              · have : nearO k soft e = some e.1 := by unfold nearO; rw [if_neg hs, if_neg ha, if_pos hb]
                rw [this]; simp [hb]; omega
              · have : nearO k soft e = none := by unfold nearO; rw [if_neg hs, if_neg ha, if_neg hb]
                have hk : ¬ (k = e.1 ∨ k = e.2.1) := by omega
                rw [this]; simp [hk]
        rw [this]
        by_cases hs : (soft && e.2.2) = true
        · simp only [if_pos hs]; omega
        · simp only [if_neg hs]; omega
    rw [key, ih, List.countP_cons]
    by_cases hs : (soft && e.2.2) = true
    · simp only [hs, if_true, Bool.not_true, Bool.false_eq_true, if_false]; omega
    · have hs' : (soft && e.2.2) = false := by simpa using hs
      rw [if_neg hs, count_two N (by omega), hN.count, hN.count, if_pos h2, if_pos h3]
      simp only [hs', Bool.not_false, if_true]
      omega

theorem near_le {N : List Int} {E : Eg} (h : Egs N E) (k : Int) (soft : Bool) : (nearD E k soft).length ≤ E.length := nearD_len E k soft

theorem sides {N : List Int} {E : Eg} (h : Egs N E) (hN : N.Nodup) : sumZ N (fun k => (nearD E k false).length) = 2 * E.length ∧ sumZ N (fun k => (nearD E k true).length) = 2 * (E.length - E.countP (·.2.2)) := by
  have h1 := sum_near hN false E h.ends
  have h2 := sum_near hN true E h.ends
  have e : ∀ s, (fun k => (nearD E k s).length) = fun k => (nearL E k s).length := fun s => funext fun k => nearD_length E k s
  rw [e, e, h1, h2]
  have c1 : (E.countP fun e => !(false && e.2.2)) = E.length := by simp
  have c2 : (E.countP fun e => !(true && e.2.2)) + E.countP (·.2.2) = E.length := by
    have := List.length_eq_countP_add_countP (fun e : Int × Int × Bool => e.2.2) (l := E)
    have e2 : (fun e : Int × Int × Bool => !(true && e.2.2)) = fun e => decide ¬ e.2.2 = true := by funext e; cases e.2.2 <;> rfl
    rw [e2]; omega
  rw [c1]
  exact ⟨rfl, by omega⟩


set_option maxRecDepth 100000 in
set_option maxHeartbeats 8000000 in
theorem graphSides (l : List (Int × Int × Int)) (v : Value) (w : World) (hS : ScriptO w v l) (hf : ∀ r ∈ l, 0 ≤ r.1 ∧ r.1 ≤ 255) : Law 7 #[v] w := by
  unfold Law
  obtain ⟨sp, cap, rfl, hcap, hbig, hc⟩ := hS
  have hl : l.length ≤ 9223372036854775807 := by omega
  have HC := Lib.hid hc
  have HF := Lib.hid hf
  have AW := Lib.hid (lawAwake w)
  clear hcap hbig hc hf
  go_enter Try.func7, Try.ntmps7
  go_wp2_with fail
  with_reducible refine AW.out.mono ?_
  rintro e w0 ⟨rfl, hb0⟩
  have B0 := Lib.hid hb0
  clear hb0 AW
  go_wp2_with fail
  with_reducible refine (newNone w0).mono ?_
  rintro e w1 ⟨p, m, Q0, rfl, hG, hb1⟩
  have G0 := Lib.hid (GS.start hG)
  have B1 := Lib.hid (hb1.alloc hb1.size (.cells #[.slice none 0 0, .slice none 0 0] 30))
  obtain ⟨c, hcc⟩ : ∃ c, c = w1.heap.size := ⟨_, rfl⟩
  rw [← hcc] at G0
  clear hG hb1
  go_wp2_with fail
  rw [← hcc]
  obtain ⟨W2, hW2⟩ : ∃ W2, W2 = w1.alloc (.cells #[.slice none 0 0, .slice none 0 0] 30) := ⟨_, rfl⟩
  rw [← hW2] at G0 B1 ⊢
  clear hW2 hcc
  go_loopg [21] l.length (fun q i wr => ∃ (j : Nat) (Q : Gr) (N : List Int) (E : Eg), q = l.length - j ∧ j ≤ l.length ∧ i = .int .i64 j ∧ GS w0.heap.size p m c Q N E wr ∧ Below w0.heap.size w0 wr ∧ N.length ≤ min j 60 ∧ E.length ≤ min j 60)
  case atStart => exact ⟨0, Q0, [], [], rfl, by omega, rfl, G0.out, B1.out, by simp, by simp⟩
  case round =>
    obtain ⟨j, Q, N, E, rfl, hj, rfl, hG, hbl, hnl, hel⟩ := hrel
    have ST := Lib.hid (And.intro hG (And.intro hbl (And.intro hnl hel)))
    have BW := Lib.hid (B0.out.trans (hbl.mono B0.out.size))
    by_cases hlt : j < l.length
    · obtain ⟨b, off, rfl, q0, q1, q2⟩ := HC.out j hlt
      have d0 := below_cells BW.out q0
      have d1 := below_cells BW.out q1
      have d2 := below_cells BW.out q2
      have hf0 := HF.out _ (List.getElem_mem hlt)
      obtain ⟨⟨a, x, y⟩, ho⟩ : ∃ o, o = l[j] := ⟨_, rfl⟩
      rw [← ho] at d0 d1 d2 hf0
      obtain ⟨Wa, hWa⟩ : ∃ Wa, Wa = wr.alloc (.cells #[.int .u8 a, .int .u64 x, .int .u64 y] 33) := ⟨_, rfl⟩
      have ba : Below wr.heap.size wr Wa := by rw [hWa]; exact (Below.refl _ _).alloc (Nat.le_refl _) _
      have GA := Lib.hid (hG.below ba)
      have DO := Lib.hid (lawDo Wa w0.heap.size p m c Q N E a x y GA.out (by omega) (by omega) hf0)
      have BA := Lib.hid (hbl.trans (ba.mono hG.big))
      have HWA := Lib.hid hWa
      clear q0 q1 q2 ho hf0 hWa ba hG hbl hnl hel
      by_cases h60 : j < 60
      · go_wp2_with fail
        rw [← HWA.out]
        with_reducible refine DO.out.mono ?_
        rintro e w5 ⟨rfl, Q', hG5, hm5⟩
        have N5 := Lib.hid (And.intro hG5 (BA.out.trans (Turn.low hm5 GA.out.big)))
        clear hG5 hm5
        go_wp2_with fail
        go_roundg (l.length - (j + 1))
        case measure => omega
        case rel => exact ⟨j + 1, Q', _, _, rfl, by omega, by go_num, N5.out.1, N5.out.2, by have h1 := doN_len N a x; have h2 := ST.out.2.2.1; omega, by have h1 := doE_len N E a x y; have h2 := ST.out.2.2.2; omega⟩
      · go_wp2_with fail
        rw [← HWA.out]
        go_roundg (l.length - (j + 1))
        case measure => omega
        case rel => exact ⟨j + 1, Q, N, E, rfl, by omega, by go_num, GA.out, BA.out, by have h2 := ST.out.2.2.1; omega, by have h2 := ST.out.2.2.2; omega⟩
    · obtain ⟨w2, hw2⟩ : ∃ w2, w2 = wr := ⟨_, rfl⟩
      rw [← hw2] at hG hbl BW ⊢
      have hN6 : N.length ≤ 60 := by omega
      have hE6 : E.length ≤ 60 := by omega
      have GG := Lib.hid hG
      have BB := Lib.hid hbl
      clear ST HC HF hw2 hG hbl hnl hel
      have NL := Lib.hid (GG.out.rel.egs)
      have cK := GG.out.gp.keys (by omega)
      go_wp2_with fail
      refine cK.mono ?_
      rintro e w3 ⟨v3, rfl, h3, hb3⟩
      obtain ⟨p3, n3, k3, rfl⟩ := own_form h3
      obtain rfl : n3 = N.length := own_len h3
      have G3 := Lib.hid (GG.out.below hb3)
      have BB3 := Lib.hid (BB.out.trans (hb3.mono GG.out.big))
      have R3 := Lib.hid (own_mono h3 GG.out.big)
      have hlN : N.length ≤ 9223372036854775807 := by omega
      have ML := Lib.hid (show ∀ k s, (nearD E k s).length ≤ 60 from fun k s => Nat.le_trans (nearD_len E k s) hE6)
      clear h3 hb3 cK
      go_wp2_with fail
      go_loopg [7, 8, 39] N.length (fun q s1 s2 i w4 => ∃ (j : Nat), q = N.length - j ∧ j ≤ N.length ∧ i = .int .i64 j ∧ s1 = .int .i64 (sumZ (N.take j) fun k => (nearD E k false).length) ∧ s2 = .int .i64 (sumZ (N.take j) fun k => (nearD E k true).length) ∧ GS w0.heap.size p m c Q N E w4 ∧ Below w0.heap.size w0 w4 ∧
        w4.ownsRow w0.heap.size 31 1 (.slice p3 N.length k3) N.length (N.map (Value.int .u64)))
      case atStart => exact ⟨0, rfl, by omega, rfl, rfl, rfl, G3.out, BB3.out, R3.out⟩
      case round =>
        obtain ⟨j, rfl, hj, rfl, rfl, rfl, hG, hbl, hrow⟩ := hrel
        have bnd : ∀ (s : Bool) (j : Nat), sumZ (N.take j) (fun k => (nearD E k s).length) ≤ 60 * j := by
          intro s j
          have : ∀ M : List Int, sumZ M (fun k => (nearD E k s).length) ≤ 60 * M.length := by
            intro M
            induction M with
            | nil => simp [sumZ]
            | cons k M ih =>
              have h1 := ML.out k s
              unfold sumZ at *
              rw [List.map_cons, List.sum_cons, List.length_cons]
              omega
          have h2 := this (N.take j)
          rw [List.length_take] at h2
          omega
        have ST := Lib.hid (And.intro hG (And.intro hbl hrow))
        by_cases hlt : j < N.length
        · obtain ⟨g, cap', hve, -, hgl⟩ := hrow.form (by omega)
          obtain ⟨rfl, -, rfl⟩ := Value.slice.inj hve
          have hcell : wr.cell? ⟨g, j, none⟩ = some (.int .u64 N[j]) := by
            rw [World.ownsRow.cellAt hrow j (by omega), List.getElem?_map, List.getElem?_eq_getElem hlt]; rfl
          have s1 := sumZ_snoc N (fun k => (nearD E k false).length) j hlt
          have s2 := sumZ_snoc N (fun k => (nearD E k true).length) j hlt
          have b1 := bnd false j
          have b2 := bnd true j
          have m1 := ML.out N[j] false
          have m2 := ML.out N[j] true
          have c1 := hG.gp.near (by omega) N[j]
          have SS := Lib.hid (And.intro s1 s2)
          obtain ⟨A, hA⟩ : ∃ A, A = sumZ (N.take j) (fun k => (nearD E k false).length) := ⟨_, rfl⟩
          obtain ⟨C, hC⟩ : ∃ C, C = sumZ (N.take j) (fun k => (nearD E k true).length) := ⟨_, rfl⟩
          rw [← hA, ← hC] at SS
          rw [← hA] at b1 ⊢
          rw [← hC] at b2 ⊢
          have hw1 : IntKind.i64.wrap ((A : Int) + ((nearD E N[j] false).length : Int)) = (A : Int) + ((nearD E N[j] false).length : Int) := by simp [IntKind.wrap, IntKind.signed, IntKind.bits] <;> omega
          have hw2 : IntKind.i64.wrap ((C : Int) + ((nearD E N[j] true).length : Int)) = (C : Int) + ((nearD E N[j] true).length : Int) := by simp [IntKind.wrap, IntKind.signed, IntKind.bits] <;> omega
          clear s1 s2 hA hC hG hbl hrow hve
          go_wp2_with fail
          refine c1.mono ?_
          rintro e w5 ⟨v5, rfl, h5, hb5⟩
          obtain ⟨p5, n5, k5, rfl⟩ := own_form h5
          obtain rfl : n5 = (nearD E N[j] false).length := own_len h5
          have G5 := ST.out.1.below hb5
          have c2 := G5.gp.soft (by omega) N[j]
          have T5 := Lib.hid (And.intro G5 (And.intro (ST.out.2.1.trans (hb5.mono ST.out.1.big)) (own_below ST.out.2.2 hb5)))
          clear h5 hb5 G5
          go_wp2_with fail
          refine c2.mono ?_
          rintro e w6 ⟨v6, rfl, h6, hb6⟩
          obtain ⟨p6, n6, k6, rfl⟩ := own_form h6
          obtain rfl : n6 = (nearD E N[j] true).length := own_len h6
          have T6 := Lib.hid (And.intro (T5.out.1.below hb6) (And.intro (T5.out.2.1.trans (hb6.mono T5.out.1.big)) (own_below T5.out.2.2 hb6)))
          clear h6 hb6
          go_wp2_with fail
          go_roundg (N.length - (j + 1))
          case measure => omega
          case rel => exact ⟨j + 1, rfl, by omega, by go_num, by rw [SS.out.1]; push_cast; rfl, by rw [SS.out.2]; push_cast; rfl, T6.out⟩
        · obtain rfl : j = N.length := by omega
          rw [List.take_length]
          obtain ⟨S1, S2⟩ := sides hG.rel.egs (sorted_nodup hG.rel.sorted)
          rw [S1, S2]
          obtain ⟨vn, ve, hd⟩ := hG.d
          obtain ⟨pe, me, ce, rfl⟩ := own_form hd.edges
          obtain rfl : me = E.length := own_len hd.edges
          have hlE : E.length ≤ 9223372036854775807 := by omega
          have c1 := hd.get1
          have HD := Lib.hid hd
          have BK := Lib.hid hbl
          have CP := Lib.hid (show ∀ j, E.countP (·.2.2) ≤ 60 ∧ (E.take j).countP (·.2.2) ≤ 60 from fun j => ⟨Nat.le_trans List.countP_le_length hE6, Nat.le_trans List.countP_le_length (by rw [List.length_take]; omega)⟩)
          obtain ⟨wk, rfl⟩ : ∃ wk : World, wk = wr := ⟨_, rfl⟩
          have hB : w0.heap.size ≤ wk.heap.size := hG.big
          clear hG hbl hrow ST bnd S1 S2 hd
          go_wp2_with fail
          go_loopg [9, 61] E.length (fun q s i w4 => ∃ j : Nat, q = E.length - j ∧ j ≤ E.length ∧ i = .int .i64 j ∧ s = .int .i64 ((E.take j).countP (·.2.2)) ∧ Below wk.heap.size wk w4)
          case atStart => exact ⟨0, rfl, by omega, rfl, by simp, Below.refl _ _⟩
          case round =>
            obtain ⟨j, rfl, hj, rfl, rfl, hbl⟩ := hrel
            have ST := Lib.hid hbl
            have hs := hbl.size
            by_cases hlt : j < E.length
            · have row := own_below HD.out.edges hbl
              obtain ⟨g, cap', hve, -, hgl⟩ := row.form (by omega)
              obtain ⟨rfl, -, rfl⟩ := Value.slice.inj hve
              have e3 := flatE_get E j hlt
              have sn : (E.take (j + 1)).countP (·.2.2) = (E.take j).countP (·.2.2) + (if E[j].2.2 = true then 1 else 0) := by
                rw [List.take_add_one, List.getElem?_eq_getElem hlt, Option.toList_some, List.countP_append, List.countP_singleton]
              have cp := (CP.out j).2
              obtain ⟨A, hA⟩ : ∃ A, A = (E.take j).countP (·.2.2) := ⟨_, rfl⟩
              rw [← hA] at sn cp ⊢
              obtain ⟨⟨x, y, z⟩, he⟩ : ∃ e, e = E[j] := ⟨_, rfl⟩
              rw [← he] at e3 sn
              have d0 : wr.cell? ⟨g, j * 3, none⟩ = some (.int .u64 x) := by rw [World.ownsRow.cellAt row _ (by omega)]; exact e3.1
              have d1 : wr.cell? ⟨g, j * 3 + 1, none⟩ = some (.int .u64 y) := by rw [World.ownsRow.cellAt row _ (by omega)]; exact e3.2.1
              have d2 : wr.cell? ⟨g, j * 3 + 2, none⟩ = some (.bool z) := by rw [World.ownsRow.cellAt row _ (by omega)]; exact e3.2.2
              have hw1 : IntKind.i64.wrap ((A : Int) + 1) = (A : Int) + 1 := by simp [IntKind.wrap, IntKind.signed, IntKind.bits] <;> omega
              have HB := Lib.hid (hbl.alloc hs (.cells #[.int .u64 x, .int .u64 y, .bool z] 50))
              clear row e3 hve he hA hbl
              cases z with
              | true =>
                have SN := Lib.hid (show (E.take (j + 1)).countP (·.2.2) = A + 1 from by simpa using sn)
                clear sn
                go_wp2_with fail
                go_roundg (E.length - (j + 1))
                case measure => omega
                case rel => exact ⟨j + 1, rfl, by omega, by go_num, by rw [SN.out]; push_cast; rfl, HB.out⟩
              | false =>
                have SN := Lib.hid (show (E.take (j + 1)).countP (·.2.2) = A from by simpa using sn)
                clear sn
                go_wp2_with fail
                go_roundg (E.length - (j + 1))
                case measure => omega
                case rel => exact ⟨j + 1, rfl, by omega, by go_num, by rw [SN.out], HB.out⟩
            · obtain rfl : j = E.length := by omega
              have c2 := (HD.out.below hbl).get1
              have cp := (CP.out 0).1
              rw [List.take_length]
              obtain ⟨A, hA⟩ : ∃ A, A = E.countP (·.2.2) := ⟨_, rfl⟩
              have hAl : A ≤ E.length := by rw [hA]; exact List.countP_le_length
              rw [← hA] at cp ⊢
              have hw0 : IntKind.i64.wrap (2 * (E.length : Int)) = 2 * (E.length : Int) := by simp [IntKind.wrap, IntKind.signed, IntKind.bits] <;> omega
              have hw1 : IntKind.i64.wrap ((E.length : Int) - (A : Int)) = (E.length : Int) - (A : Int) := by simp [IntKind.wrap, IntKind.signed, IntKind.bits] <;> omega
              have hw2 : IntKind.i64.wrap (2 * ((E.length : Int) - (A : Int))) = 2 * ((E.length : Int) - (A : Int)) := by simp [IntKind.wrap, IntKind.signed, IntKind.bits] <;> omega
              have hn2 : ((E.length - A : Nat) : Int) = (E.length : Int) - (A : Int) := by omega
              rw [hn2]
              have HB := Lib.hid (B0.out.trans ((BK.out.trans (hbl.mono hB)).mono B0.out.size))
              clear hA hbl ST hn2
              go_wp2_with fail
              go_ret
              exact ⟨rfl, HB.out⟩

end Go.Proofs.Ytdbeekdnehojnaa
