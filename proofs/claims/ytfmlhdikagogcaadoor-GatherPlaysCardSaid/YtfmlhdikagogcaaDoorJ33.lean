/-
  gather: Ask: an odd note; a question that is asked again.
-/
import Derived.Test.YtfmlhdikagogcaaDoorJ19
namespace Go.Proofs.YtfmlhdikagogcaaDoor
open Go.RowKit
set_option maxRecDepth 20000


theorem askOdd
    (B c : Nat) (F R E : Nat → Prop) (g : Gz) (n : Nt) (vp vo vv vh : Value) (frm stamp mark : Int) (w : World) (hT : Tab w) (hG : GAt w B c F R g) (hB : B ≤ w.heap.size) (hok : GOk g) (hv : NoteV w E n vp vo vv vh) (hkd : 0 ≤ n.kind ∧ n.kind ≤ 255) (hlen : n.parts.length ≤ 1000000 ∧ n.ops.length ≤ 1000000 ∧ n.vec.length ≤ 1000000 ∧ n.hits.length ≤ 1000000)
    (hodd : oddB frm n 8 = true) :
    Calls Tryd.prog 11 #[.pointer (some ⟨c, 0, none⟩), .int .i64 frm, .agg (n.cells vp vo vv vh), .int .u64 stamp, .int .u64 mark] w (GTold w B c F R (fun _ => False) (askZ g frm n stamp mark).1 (askZ g frm n stamp mark).2) := by
  obtain ⟨p0, q0, rfl, -, -, -, -⟩ := hv.parts.slice
  obtain ⟨p1, q1, rfl, -, -, -, -⟩ := id hv.ops
  obtain ⟨p2, q2, rfl, -, -, -, -⟩ := hv.vec.slice
  obtain ⟨p3, q3, rfl, -, -, -, -⟩ := id hv.hits
  obtain ⟨W1, hW1⟩ : ∃ W1, W1 = w.alloc (.cells (n.cells (.slice p0 n.parts.length q0) (.slice p1 n.ops.length q1) (.slice p2 n.vec.length q2) (.slice p3 n.hits.length q3)) 37) := ⟨_, rfl⟩
  have hB1 : Below w.heap.size w W1 := by rw [hW1]; exact (Below.refl _ _).alloc (Nat.le_refl _) _
  have y0 : W1.heap[w.heap.size]? = some (.cells (n.cells (.slice p0 n.parts.length q0) (.slice p1 n.ops.length q1) (.slice p2 n.vec.length q2) (.slice p3 n.hits.length q3)) 37 (0, 0)) := by rw [hW1]; exact heap_alloc_new _ _
  have hs1 : W1.heap.size = w.heap.size + 1 := by rw [hW1]; simp
  have OD := Lib.hid (odd frm 8 n E _ _ _ _ W1 (hT.below hB1) (hv.below hB1) hkd hlen)
  have Y0 := Lib.hid y0
  have B1 := Lib.hid hB1
  have V := Lib.hid hv
  have GG := Lib.hid hG
  have OK := Lib.hid hok
  have HR := Lib.hid (show ∀ k, R k → k < w.heap.size from by obtain ⟨lv, Q, hI⟩ := hG; exact fun k hk => (hI.apart k hk).1)
  have HBB := Lib.hid hB
  have HLN := Lib.hid hlen
  obtain ⟨⟨z0, z1, z2, z3, z4⟩, ⟨z5, z6, z7, z8, z9⟩, ⟨z10, z11, z12, z13, z14⟩, z15⟩ := note_get y0
  clear hT hv hkd hlen hB1 y0 hG hok hB
  unfold Nt.cells at *
  have AZ := Lib.hid (show askZ g frm n stamp mark = ([], g) by unfold askZ; rw [hodd, if_pos rfl])
  rw [hodd] at OD
  clear hodd
  go_enter Tryd.func11, Tryd.ntmps11
  go_wp2_with fail
  rw [← hW1]
  refine OD.out.mono ?_
  rintro e w2 ⟨rfl, hb2⟩
  have B2 := Lib.hid (B1.out.trans (hb2.mono B1.out.size))
  clear hb2
  go_wp2_with fail
  go_ret
  rw [AZ.out]
  exact GTold.none (GG.out.below B2.out) (Mod.of_below B2.out)

set_option maxHeartbeats 4000000 in
theorem askFound
    (B c : Nat) (F R E : Nat → Prop) (g : Gz) (n : Nt) (vp vo vv vh : Value) (frm stamp mark : Int) (w : World) (hT : Tab w) (hG : GAt w B c F R g) (hB : B ≤ w.heap.size) (hok : GOk g) (hv : NoteV w E n vp vo vv vh) (hkd : 0 ≤ n.kind ∧ n.kind ≤ 255) (hlen : n.parts.length ≤ 1000000 ∧ n.ops.length ≤ 1000000 ∧ n.vec.length ≤ 1000000 ∧ n.hits.length ≤ 1000000)
    (hodd : oddB frm n 8 = false) (qx : Qs) (hfind : g.l.find? (isQ frm n) = some qx) :
    Calls Tryd.prog 11 #[.pointer (some ⟨c, 0, none⟩), .int .i64 frm, .agg (n.cells vp vo vv vh), .int .u64 stamp, .int .u64 mark] w (GTold w B c F R (fun _ => False) (askZ g frm n stamp mark).1 (askZ g frm n stamp mark).2) := by
  obtain ⟨p0, q0, rfl, -, -, -, -⟩ := hv.parts.slice
  obtain ⟨p1, q1, rfl, -, -, -, -⟩ := id hv.ops
  obtain ⟨p2, q2, rfl, -, -, -, -⟩ := hv.vec.slice
  obtain ⟨p3, q3, rfl, -, -, -, -⟩ := id hv.hits
  obtain ⟨W1, hW1⟩ : ∃ W1, W1 = w.alloc (.cells (n.cells (.slice p0 n.parts.length q0) (.slice p1 n.ops.length q1) (.slice p2 n.vec.length q2) (.slice p3 n.hits.length q3)) 37) := ⟨_, rfl⟩
  have hB1 : Below w.heap.size w W1 := by rw [hW1]; exact (Below.refl _ _).alloc (Nat.le_refl _) _
  have y0 : W1.heap[w.heap.size]? = some (.cells (n.cells (.slice p0 n.parts.length q0) (.slice p1 n.ops.length q1) (.slice p2 n.vec.length q2) (.slice p3 n.hits.length q3)) 37 (0, 0)) := by rw [hW1]; exact heap_alloc_new _ _
  have hs1 : W1.heap.size = w.heap.size + 1 := by rw [hW1]; simp
  have OD := Lib.hid (odd frm 8 n E _ _ _ _ W1 (hT.below hB1) (hv.below hB1) hkd hlen)
  have Y0 := Lib.hid y0
  have B1 := Lib.hid hB1
  have V := Lib.hid hv
  have GG := Lib.hid hG
  have OK := Lib.hid hok
  have HR := Lib.hid (show ∀ k, R k → k < w.heap.size from by obtain ⟨lv, Q, hI⟩ := hG; exact fun k hk => (hI.apart k hk).1)
  have HBB := Lib.hid hB
  have HLN := Lib.hid hlen
  obtain ⟨⟨z0, z1, z2, z3, z4⟩, ⟨z5, z6, z7, z8, z9⟩, ⟨z10, z11, z12, z13, z14⟩, z15⟩ := note_get y0
  clear hT hv hkd hlen hB1 y0 hG hok hB
  unfold Nt.cells at *
  have AZ := Lib.hid (show askZ g frm n stamp mark = (looksZ qx, g) by unfold askZ; rw [hodd, if_neg (by simp), hfind])
  have FD := Lib.hid hfind
  clear hfind
  rw [hodd] at OD
  have OB := Lib.hid hodd
  clear hodd
  go_enter Tryd.func11, Tryd.ntmps11
  go_wp2_with fail
  rw [← hW1]
  refine OD.out.mono ?_
  rintro e W2 ⟨rfl, hb2⟩
  obtain ⟨lv, Q, h0⟩ := GG.out
  have hI := h0.below (B1.out.trans (hb2.mono B1.out.size))
  obtain ⟨x0, x1, x2, x3, -⟩ := hI.get
  obtain ⟨p, m, cap, rfl⟩ := own_form hI.row
  obtain rfl : m = g.l.length := own_len hI.row
  have B2 := Lib.hid (B1.out.trans (hb2.mono B1.out.size))
  have B21 := Lib.hid hb2
  have II := Lib.hid hI
  have G0 := Lib.hid h0
  clear h0
  have hs2 : w.heap.size < W2.heap.size := by have := hb2.size; omega
  replace z0 := below_cells hb2 z0
  replace z6 := below_cells hb2 z6
  replace z14 := below_cells hb2 z14
  clear hb2 hI
  have ZZ := Lib.hid (And.intro z1 (And.intro z2 (And.intro z3 (And.intro z4 (And.intro z5 (And.intro z7 (And.intro z8 (And.intro z9 (And.intro z10 (And.intro z11 (And.intro z12 (And.intro z13 z15))))))))))))
  clear z1 z2 z3 z4 z5 z7 z8 z9 z10 z11 z12 z13 z15
  have hl8 := OK.out.most
  go_wp2_with fail
  go_loopg [27] g.l.length (fun q i wr => ∃ k : Nat, q = g.l.length - k ∧ k ≤ g.l.length ∧ i = .int .i64 k ∧ (∀ j (h : j < g.l.length), j < k → isQ frm n g.l[j] = false) ∧ Below W2.heap.size W2 wr)
  case atStart => exact ⟨0, rfl, by omega, rfl, fun j _ h => absurd h (by omega), Below.refl _ _⟩
  case round =>
    obtain ⟨k, rfl, hk, rfl, hall, hb⟩ := hrel
    have O := Lib.hid (And.intro hall hb)
    replace z6 := below_cells hb z6
    by_cases hlt : k < g.l.length
    · skip
      have hI := II.out.below hb
      have hkQ : k < Q.length := by rw [hI.len]; exact hlt
      obtain ⟨b, rfl, -, c0⟩ := row_elem hI.row (i := k) (by simpa using hkQ)
      have c1 : wr.cell? ⟨b, k, none⟩ = some (.pointer (some ⟨Q[k].b, 0, none⟩)) := by rw [c0]; simp [Qp.ptr]
      have hq := hI.each k hkQ hlt
      obtain ⟨-, -, -, -, x16, x17, -, -⟩ := hq.get
      have QQ := Lib.hid hq
      clear hall hb hI c0 hq z14 x0 x1 x2 x3
      by_cases hw : g.l[k].who = frm
      · have hw1 : (g.l[k].who == frm) = true := by simp [hw]
        by_cases hqq : g.l[k].query = n.query
        · have hw2 : (g.l[k].query == n.query) = true := by simp [hqq]
          have MT := Lib.hid (show isQ frm n g.l[k] = true by simp [isQ, hw, hqq])
          clear hw hqq
          go_wp2_with fail
          refine region_go (fun w' => w'.cell? ⟨Q[k].b, 16, none⟩ = some (.int .i64 g.l[k].who) ∧ w'.cell? ⟨Q[k].b, 17, none⟩ = some (.int .u64 g.l[k].query) ∧ w'.cell? ⟨w.heap.size, 6, none⟩ = some (.int .u64 n.query)) (by kernel_rfl) ?hS0 (fun hH => ?_)
          case hS0 =>
            exact ⟨x16, x17, z6⟩
          refine kY 0 hH ?_
          repeat simp only [Act.put, uA1, uB1, uC1]
          refine kY 1 hH ?_
          repeat simp only [Act.put, uA1, uB1, uC1]
          refine kY 2 hH ?_
          repeat simp only [Act.put, uA1, uB1, uC1]
          refine kY 3 hH ?_
          repeat simp only [Act.put, uA1, uB1, uC1]
          refine kY 4 hH ?_
          repeat simp only [Act.put, uA1, uB1, uC1]
          refine kY 5 hH ?_
          repeat simp only [Act.put, uA1, uB1, uC1]
          refine kY 6 hH ?_
          repeat simp only [Act.put, uA1, uB1, uC1]
          refine kY 7 hH ?_
          repeat simp only [Act.put, uA1, uB1, uC1]
          refine kY 8 hH ?_
          repeat simp only [Act.put, uA1, uB1, uC1]
          refine kY 9 hH ?_
          repeat simp only [Act.put, uA1, uB1, uC1]
          refine kY 10 hH ?_
          repeat simp only [Act.put, uA1, uB1, uC1]
          refine kY 11 hH ?_
          repeat simp only [Act.put, uA1, uB1, uC1]
          refine kY 12 hH ?_
          repeat simp only [Act.put, uA1, uB1, uC1]
          refine kY 13 hH ?_
          repeat simp only [Act.put, uA1, uB1, uC1]
          refine kY 14 hH ?_
          repeat simp only [Act.put, uA1, uB1, uC1]
          refine wpAnyH_done (by decide +kernel) ?_ _
          clear hH x16 x17
          go_wp2_with fail
          have hqd := QQ.out.below (Below.refl wr.heap.size wr).drew
          have hqk := OK.out.each g.l[k] (List.getElem_mem hlt)
          refine (looks g.l[k] R _ _ _ _ _ _ _ _ hqd (by omega) (by omega)).mono ?_
          intro e w3 hN
          have FQ := Lib.hid (show g.l.find? (isQ frm n) = some g.l[k] from List.find?_eq_some_iff_getElem.2 ⟨MT.out, k, hlt, rfl, fun j hj => by have := O.out.1 j (by omega) hj; simp [this]⟩)
          have hqe := Lib.hid (Option.some.inj (FD.out.symm.trans FQ.out))
          have hb5 := B2.out.trans ((O.out.2.trans ((Below.refl _ _).drew.mono O.out.2.size)).mono B2.out.size)
          have FIN := Lib.hid (GTold.same (E := fun _ => False) GG.out hb5 HR.out hN)
          obtain ⟨v3, rs3, G3, rfl, -⟩ := hN
          clear hqd hqk hb5
          go_wp2_with fail
          go_ret
          rw [AZ.out, hqe.out]
          exact FIN.out
        · have hw2 : (g.l[k].query == n.query) = false := by simp [hqq]
          have MT := Lib.hid (show isQ frm n g.l[k] = false by simp [isQ, hqq])
          clear hw hqq
          go_wp2_with fail
          refine region_go (fun w' => w'.cell? ⟨Q[k].b, 16, none⟩ = some (.int .i64 g.l[k].who) ∧ w'.cell? ⟨Q[k].b, 17, none⟩ = some (.int .u64 g.l[k].query) ∧ w'.cell? ⟨w.heap.size, 6, none⟩ = some (.int .u64 n.query)) (by kernel_rfl) ?hS0 (fun hH => ?_)
          case hS0 =>
            exact ⟨x16, x17, z6⟩
          refine kY 0 hH ?_
          repeat simp only [Act.put, uA1, uB1, uC1]
          refine kY 1 hH ?_
          repeat simp only [Act.put, uA1, uB1, uC1]
          refine kY 2 hH ?_
          repeat simp only [Act.put, uA1, uB1, uC1]
          refine kY 3 hH ?_
          repeat simp only [Act.put, uA1, uB1, uC1]
          refine kY 4 hH ?_
          repeat simp only [Act.put, uA1, uB1, uC1]
          refine kY 5 hH ?_
          repeat simp only [Act.put, uA1, uB1, uC1]
          refine kY 6 hH ?_
          repeat simp only [Act.put, uA1, uB1, uC1]
          refine kY 7 hH ?_
          repeat simp only [Act.put, uA1, uB1, uC1]
          refine kY 8 hH ?_
          repeat simp only [Act.put, uA1, uB1, uC1]
          refine kY 9 hH ?_
          repeat simp only [Act.put, uA1, uB1, uC1]
          refine kY 10 hH ?_
          repeat simp only [Act.put, uA1, uB1, uC1]
          refine kY 11 hH ?_
          repeat simp only [Act.put, uA1, uB1, uC1]
          refine kY 12 hH ?_
          repeat simp only [Act.put, uA1, uB1, uC1]
          refine kY 13 hH ?_
          repeat simp only [Act.put, uA1, uB1, uC1]
          refine kY 14 hH ?_
          repeat simp only [Act.put, uA1, uB1, uC1]
          refine wpAnyH_done (by decide +kernel) ?_ _
          clear hH x16 x17
          go_wp2_with fail
          go_roundg (g.l.length - (k + 1))
          case measure => omega
          case rel => exact ⟨k + 1, rfl, by omega, by go_num, fun j h hj => by
            by_cases e : j = k
            · subst e; exact MT.out
            · exact O.out.1 j h (by omega), O.out.2.trans ((Below.refl _ _).drew.mono O.out.2.size)⟩
      · have hw1 : (g.l[k].who == frm) = false := by simp [hw]
        have MT := Lib.hid (show isQ frm n g.l[k] = false by simp [isQ, hw])
        clear hw
        go_wp2_with fail
        refine region_go (fun w' => w'.cell? ⟨Q[k].b, 16, none⟩ = some (.int .i64 g.l[k].who) ∧ w'.cell? ⟨Q[k].b, 17, none⟩ = some (.int .u64 g.l[k].query) ∧ w'.cell? ⟨w.heap.size, 6, none⟩ = some (.int .u64 n.query)) (by kernel_rfl) ?hS0 (fun hH => ?_)
        case hS0 =>
          exact ⟨x16, x17, z6⟩
        refine kY 0 hH ?_
        repeat simp only [Act.put, uA1, uB1, uC1]
        refine kY 1 hH ?_
        repeat simp only [Act.put, uA1, uB1, uC1]
        refine kY 2 hH ?_
        repeat simp only [Act.put, uA1, uB1, uC1]
        refine kY 3 hH ?_
        repeat simp only [Act.put, uA1, uB1, uC1]
        refine kY 4 hH ?_
        repeat simp only [Act.put, uA1, uB1, uC1]
        refine kY 5 hH ?_
        repeat simp only [Act.put, uA1, uB1, uC1]
        refine kY 6 hH ?_
        repeat simp only [Act.put, uA1, uB1, uC1]
        refine kN 7 hH ?_
        repeat simp only [Act.put, uA1, uB1, uC1]
        refine kN 8 hH ?_
        repeat simp only [Act.put, uA1, uB1, uC1]
        refine kN 9 hH ?_
        repeat simp only [Act.put, uA1, uB1, uC1]
        refine kN 10 hH ?_
        repeat simp only [Act.put, uA1, uB1, uC1]
        refine kN 11 hH ?_
        repeat simp only [Act.put, uA1, uB1, uC1]
        refine kN 12 hH ?_
        repeat simp only [Act.put, uA1, uB1, uC1]
        refine kN 13 hH ?_
        repeat simp only [Act.put, uA1, uB1, uC1]
        refine kY 14 hH ?_
        repeat simp only [Act.put, uA1, uB1, uC1]
        refine wpAnyH_done (by decide +kernel) ?_ _
        clear hH x16 x17
        go_wp2_with fail
        go_roundg (g.l.length - (k + 1))
        case measure => omega
        case rel => exact ⟨k + 1, rfl, by omega, by go_num, fun j h hj => by
          by_cases e : j = k
          · subst e; exact MT.out
          · exact O.out.1 j h (by omega), O.out.2.trans ((Below.refl _ _).drew.mono O.out.2.size)⟩
    · exfalso
      obtain rfl : k = g.l.length := by omega
      obtain ⟨hm1, i, hi, he, -⟩ := List.find?_eq_some_iff_getElem.1 FD.out
      have := O.out.1 i hi hi
      rw [he] at this
      rw [this] at hm1
      exact Bool.noConfusion hm1

end Go.Proofs.YtfmlhdikagogcaaDoor
