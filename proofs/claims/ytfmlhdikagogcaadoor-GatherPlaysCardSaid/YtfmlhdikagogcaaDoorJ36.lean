/-
  gather: Ask: a new question that has a vector.
-/
import Derived.Test.YtfmlhdikagogcaaDoorJ27
namespace Go.Proofs.YtfmlhdikagogcaaDoor
open Go.RowKit
set_option maxRecDepth 20000


set_option maxHeartbeats 4000000 in
theorem askAll
    (B c : Nat) (F R E : Nat → Prop) (g : Gz) (n : Nt) (vp vo vv vh : Value) (frm stamp mark : Int) (w : World) (hT : Tab w) (hG : GAt w B c F R g) (hB : B ≤ w.heap.size) (hok : GOk g) (hv : NoteV w E n vp vo vv vh) (hkd : 0 ≤ n.kind ∧ n.kind ≤ 255) (hlen : n.parts.length ≤ 1000000 ∧ n.ops.length ≤ 1000000 ∧ n.vec.length ≤ 1000000 ∧ n.hits.length ≤ 1000000)
    (hodd : oddB frm n 8 = false) (hfind : g.l.find? (isQ frm n) = none) (hd1 : 0 < n.vec.length) (hd2 : (n.vec.length : Int) = g.dim) (h8 : ¬ 8 ≤ g.l.length) :
    Calls Tryd.prog 11 #[.pointer (some ⟨c, 0, none⟩), .int .i64 frm, .agg (n.cells vp vo vv vh), .int .u64 stamp, .int .u64 mark] w (GTold w B c F R (fun _ => False) (askZ g frm n stamp mark).1 (askZ g frm n stamp mark).2) := by
  obtain ⟨p0, q0, rfl, -, -, -, -⟩ := hv.parts.slice
  obtain ⟨p1, q1, rfl, -, -, -, -⟩ := id hv.ops
  obtain ⟨p2, q2, rfl, -, -, -, -⟩ := hv.vec.slice
  obtain ⟨p3, q3, rfl, -, -, -, -⟩ := id hv.hits
  obtain ⟨W1, hW1⟩ : ∃ W1, W1 = w.alloc (.cells (n.cells (.slice p0 n.parts.length q0) (.slice p1 n.ops.length q1) (.slice p2 n.vec.length q2) (.slice p3 n.hits.length q3)) 37) := ⟨_, rfl⟩
  have hB1 : Below w.heap.size w W1 := by rw [hW1]; exact (Below.refl _ _).alloc (Nat.le_refl _) _
  have y0 : W1.heap[w.heap.size]? = some (.cells (n.cells (.slice p0 n.parts.length q0) (.slice p1 n.ops.length q1) (.slice p2 n.vec.length q2) (.slice p3 n.hits.length q3)) 37 (0, 0)) := by rw [hW1]; exact heap_alloc_new _ _
  have hs1 : W1.heap.size = w.heap.size + 1 := by rw [hW1]; simp
  have OD := Lib.hid (odd frm 8 n E _ _ _ _ W1 (hT.below hB1) (hv.below hB1) hkd hlen)
  have Y0 := Lib.hid y0
  have B1 := Lib.hid hB1
  have V := Lib.hid hv
  have GG := Lib.hid hG
  have OK := Lib.hid hok
  have HR := Lib.hid (show ∀ k, R k → k < w.heap.size from by obtain ⟨lv, Q, hI⟩ := hG; exact fun k hk => (hI.apart k hk).1)
  have HBB := Lib.hid hB
  have HLN := Lib.hid hlen
  obtain ⟨⟨z0, z1, z2, z3, z4⟩, ⟨z5, z6, z7, z8, z9⟩, ⟨z10, z11, z12, z13, z14⟩, z15⟩ := note_get y0
  clear hT hv hkd hlen hB1 y0 hG hok hB
  unfold Nt.cells at *
  have AZ := Lib.hid (show askZ g frm n stamp mark = (looksZ (askQ g frm n stamp mark), {g with last := IntKind.u64.wrap (g.last + 1), l := g.l ++ [askQ g frm n stamp mark]}) by unfold askZ; rw [hodd, if_neg (by simp), hfind]; simp only; rw [if_neg (by omega), if_neg h8])
  have NO := Lib.hid (show ∀ q ∈ g.l, isQ frm n q = false by intro q hq; have := List.find?_eq_none.1 hfind q hq; simpa using this)
  have V0 := Lib.hid (And.intro hd1 hd2)
  clear hfind hd1 hd2
  rw [hodd] at OD
  have OB := Lib.hid hodd
  clear hodd
  go_enter Tryd.func11, Tryd.ntmps11
  go_wp2_with fail
  rw [← hW1]
  refine OD.out.mono ?_
  rintro e W2 ⟨rfl, hb2⟩
  obtain ⟨lv, Q, h0⟩ := GG.out
  have hI := h0.below (B1.out.trans (hb2.mono B1.out.size))
  obtain ⟨x0, x1, x2, x3, -⟩ := hI.get
  obtain ⟨p, m, cap, rfl⟩ := own_form hI.row
  obtain rfl : m = g.l.length := own_len hI.row
  have B2 := Lib.hid (B1.out.trans (hb2.mono B1.out.size))
  have B21 := Lib.hid hb2
  have II := Lib.hid hI
  have G0 := Lib.hid h0
  clear h0
  have hs2 : w.heap.size < W2.heap.size := by have := hb2.size; omega
  replace z0 := below_cells hb2 z0
  replace z6 := below_cells hb2 z6
  replace z14 := below_cells hb2 z14
  clear hb2 hI
  have ZZ := Lib.hid (And.intro z1 (And.intro z2 (And.intro z3 (And.intro z4 (And.intro z5 (And.intro z7 (And.intro z8 (And.intro z9 (And.intro z10 (And.intro z11 (And.intro z12 (And.intro z13 z15))))))))))))
  clear z1 z2 z3 z4 z5 z7 z8 z9 z10 z11 z12 z13 z15
  have hl8 := OK.out.most
  go_wp2_with fail
  go_loopg [27] g.l.length (fun q i wr => ∃ k : Nat, q = g.l.length - k ∧ k ≤ g.l.length ∧ i = .int .i64 k ∧ (∀ j (h : j < g.l.length), j < k → isQ frm n g.l[j] = false) ∧ Below W2.heap.size W2 wr)
  case atStart => exact ⟨0, rfl, by omega, rfl, fun j _ h => absurd h (by omega), Below.refl _ _⟩
  case round =>
    obtain ⟨k, rfl, hk, rfl, hall, hb⟩ := hrel
    have O := Lib.hid (And.intro hall hb)
    replace z6 := below_cells hb z6
    by_cases hlt : k < g.l.length
    · skip
      have hI := II.out.below hb
      have hkQ : k < Q.length := by rw [hI.len]; exact hlt
      obtain ⟨b, rfl, -, c0⟩ := row_elem hI.row (i := k) (by simpa using hkQ)
      have c1 : wr.cell? ⟨b, k, none⟩ = some (.pointer (some ⟨Q[k].b, 0, none⟩)) := by rw [c0]; simp [Qp.ptr]
      have hq := hI.each k hkQ hlt
      obtain ⟨-, -, -, -, x16, x17, -, -⟩ := hq.get
      have QQ := Lib.hid hq
      clear hall hb hI c0 hq z14 x0 x1 x2 x3
      have MT := Lib.hid (NO.out g.l[k] (List.getElem_mem hlt))
      by_cases hw : g.l[k].who = frm
      · have hw1 : (g.l[k].who == frm) = true := by simp [hw]
        by_cases hqq : g.l[k].query = n.query
        · exfalso
          rw [show isQ frm n g.l[k] = true by simp [isQ, hw, hqq]] at MT
          exact Bool.noConfusion MT.out
        · have hw2 : (g.l[k].query == n.query) = false := by simp [hqq]
          clear hw hqq
          go_wp2_with fail
          refine region_go (fun w' => w'.cell? ⟨Q[k].b, 16, none⟩ = some (.int .i64 g.l[k].who) ∧ w'.cell? ⟨Q[k].b, 17, none⟩ = some (.int .u64 g.l[k].query) ∧ w'.cell? ⟨w.heap.size, 6, none⟩ = some (.int .u64 n.query)) (by kernel_rfl) ?hS0 (fun hH => ?_)
          case hS0 =>
            exact ⟨x16, x17, z6⟩
          refine kY 0 hH ?_
          repeat simp only [Act.put, uA1, uB1, uC1]
          refine kY 1 hH ?_
          repeat simp only [Act.put, uA1, uB1, uC1]
          refine kY 2 hH ?_
          repeat simp only [Act.put, uA1, uB1, uC1]
          refine kY 3 hH ?_
          repeat simp only [Act.put, uA1, uB1, uC1]
          refine kY 4 hH ?_
          repeat simp only [Act.put, uA1, uB1, uC1]
          refine kY 5 hH ?_
          repeat simp only [Act.put, uA1, uB1, uC1]
          refine kY 6 hH ?_
          repeat simp only [Act.put, uA1, uB1, uC1]
          refine kY 7 hH ?_
          repeat simp only [Act.put, uA1, uB1, uC1]
          refine kY 8 hH ?_
          repeat simp only [Act.put, uA1, uB1, uC1]
          refine kY 9 hH ?_
          repeat simp only [Act.put, uA1, uB1, uC1]
          refine kY 10 hH ?_
          repeat simp only [Act.put, uA1, uB1, uC1]
          refine kY 11 hH ?_
          repeat simp only [Act.put, uA1, uB1, uC1]
          refine kY 12 hH ?_
          repeat simp only [Act.put, uA1, uB1, uC1]
          refine kY 13 hH ?_
          repeat simp only [Act.put, uA1, uB1, uC1]
          refine kY 14 hH ?_
          repeat simp only [Act.put, uA1, uB1, uC1]
          refine wpAnyH_done (by decide +kernel) ?_ _
          clear hH x16 x17
          go_wp2_with fail
          go_roundg (g.l.length - (k + 1))
          case measure => omega
          case rel => exact ⟨k + 1, rfl, by omega, by go_num, fun j h hj => by
            by_cases e : j = k
            · subst e; exact MT.out
            · exact O.out.1 j h (by omega), O.out.2.trans ((Below.refl _ _).drew.mono O.out.2.size)⟩
      · have hw1 : (g.l[k].who == frm) = false := by simp [hw]
        clear hw
        go_wp2_with fail
        refine region_go (fun w' => w'.cell? ⟨Q[k].b, 16, none⟩ = some (.int .i64 g.l[k].who) ∧ w'.cell? ⟨Q[k].b, 17, none⟩ = some (.int .u64 g.l[k].query) ∧ w'.cell? ⟨w.heap.size, 6, none⟩ = some (.int .u64 n.query)) (by kernel_rfl) ?hS0 (fun hH => ?_)
        case hS0 =>
          exact ⟨x16, x17, z6⟩
        refine kY 0 hH ?_
        repeat simp only [Act.put, uA1, uB1, uC1]
        refine kY 1 hH ?_
        repeat simp only [Act.put, uA1, uB1, uC1]
        refine kY 2 hH ?_
        repeat simp only [Act.put, uA1, uB1, uC1]
        refine kY 3 hH ?_
        repeat simp only [Act.put, uA1, uB1, uC1]
        refine kY 4 hH ?_
        repeat simp only [Act.put, uA1, uB1, uC1]
        refine kY 5 hH ?_
        repeat simp only [Act.put, uA1, uB1, uC1]
        refine kY 6 hH ?_
        repeat simp only [Act.put, uA1, uB1, uC1]
        refine kN 7 hH ?_
        repeat simp only [Act.put, uA1, uB1, uC1]
        refine kN 8 hH ?_
        repeat simp only [Act.put, uA1, uB1, uC1]
        refine kN 9 hH ?_
        repeat simp only [Act.put, uA1, uB1, uC1]
        refine kN 10 hH ?_
        repeat simp only [Act.put, uA1, uB1, uC1]
        refine kN 11 hH ?_
        repeat simp only [Act.put, uA1, uB1, uC1]
        refine kN 12 hH ?_
        repeat simp only [Act.put, uA1, uB1, uC1]
        refine kN 13 hH ?_
        repeat simp only [Act.put, uA1, uB1, uC1]
        refine kY 14 hH ?_
        repeat simp only [Act.put, uA1, uB1, uC1]
        refine wpAnyH_done (by decide +kernel) ?_ _
        clear hH x16 x17
        go_wp2_with fail
        go_roundg (g.l.length - (k + 1))
        case measure => omega
        case rel => exact ⟨k + 1, rfl, by omega, by go_num, fun j h hj => by
          by_cases e : j = k
          · subst e; exact MT.out
          · exact O.out.1 j h (by omega), O.out.2.trans ((Below.refl _ _).drew.mono O.out.2.size)⟩
    · skip
      obtain rfl : k = g.l.length := by omega
      have N5 := Lib.hid (note_get (n := n) ((((hb.block _ hs2).trans (B21.out.block _ (by omega))).trans Y0.out)))
      obtain ⟨⟨-, z1, z2, z3, z4⟩, ⟨z5, -, z7, z8, z9⟩, ⟨z10, z11, z12, z13, -⟩, z15⟩ := N5.out
      replace z0 := below_cells hb z0
      replace z14 := below_cells hb z14
      have B5 := Lib.hid (B2.out.trans (hb.mono B2.out.size))
      have I5 := Lib.hid (II.out.below hb)
      have hs5 : w.heap.size < wr.heap.size := by have := hb.size; omega
      obtain ⟨x0, x1, x2, x3, -⟩ := I5.out.get
      have RQ := Lib.hid (right_query (n := n) (by have := OB.out; unfold oddB at this; simp at this; exact this.1.1.2) (by have := OB.out; unfold oddB at this; simp at this; exact this.1.1.1))
      clear hall hb hlt O
      obtain ⟨W6, hW6⟩ : ∃ W6, W6 = (wr.alloc (.map #[] 0)).alloc (.cells #[.int .u8 n.kind, .int .u64 n.txn, .int .u64 n.batch, .int .u64 n.stamp, .int .u64 n.after, .int .u64 n.mark, .int .u64 n.query, .int .u64 n.id, .int .i64 n.k, .int .i64 n.ef, .int .i64 n.code, .int .i64 n.who, .slice p0 n.parts.length q0, .slice p1 n.ops.length q1, .slice p2 n.vec.length q2, .slice p3 n.hits.length q3, .int .i64 frm, .int .u64 n.query, .slice none 0 0, .map (some wr.heap.size)] 85) := ⟨_, rfl⟩
      have hmm := @run_makeMap Tryd.prog
      go_wp2_with fail
      rw [← hW6]
      have b6 : Below wr.heap.size wr W6 := by rw [hW6]; exact ((Below.refl _ _).alloc (Nat.le_refl _) _).alloc (by simp) _
      have hs6 : W6.heap.size = wr.heap.size + 2 := by rw [hW6]; simp
      have y6 : W6.heap[wr.heap.size + 1]? = some (.cells #[.int .u8 n.kind, .int .u64 n.txn, .int .u64 n.batch, .int .u64 n.stamp, .int .u64 n.after, .int .u64 n.mark, .int .u64 n.query, .int .u64 n.id, .int .i64 n.k, .int .i64 n.ef, .int .i64 n.code, .int .i64 n.who, .slice p0 n.parts.length q0, .slice p1 n.ops.length q1, .slice p2 n.vec.length q2, .slice p3 n.hits.length q3, .int .i64 frm, .int .u64 n.query, .slice none 0 0, .map (some wr.heap.size)] 85 (0, 0)) := by
        rw [hW6]
        have := heap_alloc_new (wr.alloc (.map #[] 0)) (.cells #[.int .u8 n.kind, .int .u64 n.txn, .int .u64 n.batch, .int .u64 n.stamp, .int .u64 n.after, .int .u64 n.mark, .int .u64 n.query, .int .u64 n.id, .int .i64 n.k, .int .i64 n.ef, .int .i64 n.code, .int .i64 n.who, .slice p0 n.parts.length q0, .slice p1 n.ops.length q1, .slice p2 n.vec.length q2, .slice p3 n.hits.length q3, .int .i64 frm, .int .u64 n.query, .slice none 0 0, .map (some wr.heap.size)] 85)
        simpa using this
      have M6 := Lib.hid (show MapAt W6 (Value.int .i64) wr.heap.size [] by rw [hW6]; exact (MapAt.made wr).kept (heap_alloc_old _ _ (by simp)))
      refine (clone n.vec _ _ ((V.out.vec.below B5.out).below b6) HLN.out.2.2.1).mono ?_
      rintro e w7 ⟨u7, rfl, hu7, hb7⟩
      obtain ⟨q7, n7, k7, rfl⟩ := own_form hu7
      obtain rfl : n7 = n.vec.length := own_len hu7
      have y7 := (hb7.block (wr.heap.size + 1) (by omega)).trans y6
      have v0 := cells_get y7 0
      have v3 := cells_get y7 3
      have v5 := cells_get y7 5
      have v14 := cells_get y7 14
      have f0 := thawed y7 0
      have f3 := thawed y7 3
      have f5 := thawed y7 5
      have f14 := thawed y7 14
      obtain ⟨W8, hW8⟩ : ∃ W8, W8 = (((w7.setCell ⟨wr.heap.size + 1, 0, none⟩ (.int .u8 9)).setCell ⟨wr.heap.size + 1, 3, none⟩ (.int .u64 stamp)).setCell ⟨wr.heap.size + 1, 5, none⟩ (.int .u64 mark)).setCell ⟨wr.heap.size + 1, 14, none⟩ (.slice q7 n.vec.length k7) := ⟨_, rfl⟩
      have y8 : W8.heap[wr.heap.size + 1]? = some (.cells #[.int .u8 9, .int .u64 n.txn, .int .u64 n.batch, .int .u64 stamp, .int .u64 n.after, .int .u64 mark, .int .u64 n.query, .int .u64 n.id, .int .i64 n.k, .int .i64 n.ef, .int .i64 n.code, .int .i64 n.who, .slice p0 n.parts.length q0, .slice p1 n.ops.length q1, .slice q7 n.vec.length k7, .slice p3 n.hits.length q3, .int .i64 frm, .int .u64 n.query, .slice none 0 0, .map (some wr.heap.size)] 85 (0, 0)) := by
        rw [hW8]
        have := set_block (set_block (set_block (set_block y7 0 (.int .u8 9)) 3 (.int .u64 stamp)) 5 (.int .u64 mark)) 14 (.slice q7 n.vec.length k7)
        simpa using this
      have o8 : ∀ k, k ≠ wr.heap.size + 1 → W8.heap[k]? = w7.heap[k]? := fun k hk => by
        rw [hW8]; exact set_other (set_other (set_other (set_other rfl hk _ _) hk _ _) hk _ _) hk _ _
      have hs8 : W8.heap.size = w7.heap.size := by rw [hW8]; simp [World.setCell]
      have hs7 : W6.heap.size ≤ w7.heap.size := hb7.size
      have b8 : Below wr.heap.size wr W8 := by
        rw [hW8]
        exact (((((b6.trans (hb7.mono (by omega))).setCell (by simp) _).setCell (by simp) _).setCell (by simp) _).setCell (by simp) _)
      have M8 := Lib.hid (show MapAt W8 (Value.int .i64) wr.heap.size [] from (M6.out.kept (hb7.block _ (by omega))).kept (o8 _ (by omega)))
      have U8 := Lib.hid (show W8.ownsRow W6.heap.size 21 1 (.slice q7 n.vec.length k7) n.vec.length (n.vec.map (Value.int .i32)) by
        rw [hW8]
        have hne : (Value.slice q7 n.vec.length k7).ownBlock ≠ some (wr.heap.size + 1) := fun e => by have := (hu7.lt _ e).1; omega
        exact (((hu7.kept (grownBy_setCells _ [_] 0 _) (.inr hne)).kept (grownBy_setCells _ [_] 3 _) (.inr hne)).kept (grownBy_setCells _ [_] 5 _) (.inr hne)).kept (grownBy_setCells _ [_] 14 _) (.inr hne))
      have B8 := Lib.hid b8
      have Y8 := Lib.hid y8
      have t14 := below_cells b8 z14
      have t1 := below_cells b8 x1
      clear hb7 hu7 y7 y6 b6 o8 y8 hW6
      go_wp2_with fail
      rw [← hW8]
      clear hW8
      have o2 : c < w.heap.size := by obtain ⟨lv', Q', h⟩ := GG.out; exact (h.low c h.here).2
      have e1 : decide ((0 : Int) < (n.vec.length : Int)) = true := decide_eq_true (by have := V0.out.1; omega)
      have e2 : decide (0 < n.vec.length) = true := decide_eq_true (by have := V0.out.1; omega)
      have e3 : ((n.vec.length : Int) != g.dim) = false := by have := V0.out.2; simp; omega
      refine region_go (fun w' => w'.cell? ⟨w.heap.size, 14, none⟩ = some (.slice p2 n.vec.length q2) ∧ w'.cell? ⟨c, 1, none⟩ = some (.int .i64 g.dim)) (by kernel_rfl) ?hS0 (fun hH => ?_)
      case hS0 =>
        exact ⟨t14, t1⟩
      refine kY 0 hH ?_
      repeat simp only [Act.put, uA1, uB1, uC1]
      refine kY 1 hH ?_
      repeat simp only [Act.put, uA1, uB1, uC1]
      refine kY 2 hH ?_
      repeat simp only [Act.put, uA1, uB1, uC1]
      refine kY 3 hH ?_
      repeat simp only [Act.put, uA1, uB1, uC1]
      refine kY 4 hH ?_
      repeat simp only [Act.put, uA1, uB1, uC1]
      refine kY 5 hH ?_
      repeat simp only [Act.put, uA1, uB1, uC1]
      refine kY 6 hH ?_
      repeat simp only [Act.put, uA1, uB1, uC1]
      refine kY 7 hH ?_
      repeat simp only [Act.put, uA1, uB1, uC1]
      refine kY 8 hH ?_
      repeat simp only [Act.put, uA1, uB1, uC1]
      refine kY 9 hH ?_
      repeat simp only [Act.put, uA1, uB1, uC1]
      refine kY 10 hH ?_
      repeat simp only [Act.put, uA1, uB1, uC1]
      refine kY 11 hH ?_
      repeat simp only [Act.put, uA1, uB1, uC1]
      refine kY 12 hH ?_
      repeat simp only [Act.put, uA1, uB1, uC1]
      refine kY 13 hH ?_
      repeat simp only [Act.put, uA1, uB1, uC1]
      refine kY 14 hH ?_
      repeat simp only [Act.put, uA1, uB1, uC1]
      refine wpAnyH_done (by decide +kernel) ?_ _
      clear hH t14 t1
      obtain ⟨W9, hW9⟩ : ∃ W9, W9 = W8.drew := ⟨_, rfl⟩
      have Y9 := Lib.hid ((show W9.heap[wr.heap.size + 1]? = W8.heap[wr.heap.size + 1]? by rw [hW9]; rfl).trans Y8.out)
      have B9 := Lib.hid (show Below wr.heap.size wr W9 by rw [hW9]; exact B8.out.drew)
      have M9 := Lib.hid (M8.out.kept (show W9.heap[wr.heap.size]? = W8.heap[wr.heap.size]? by rw [hW9]; rfl))
      have U9 := Lib.hid (show W9.ownsRow W6.heap.size 21 1 (.slice q7 n.vec.length k7) n.vec.length (n.vec.map (Value.int .i32)) by rw [hW9]; exact own_below U8.out (Below.refl _ _).drew)
      rw [← hW9]
      clear hW9
      have e4 : ((n.vec.length : Int) == 0) = false := beq_eq_false_iff_ne.2 (by have := V0.out.1; omega)
      have hcb := (B9.out.block c (by omega)).trans I5.out.obj
      have y2 := below_cells (B9.out) x2
      have y0c := below_cells (B9.out) x0
      have yf2 : W9.frozen? ⟨c, 2, none⟩ = false := by simp [World.frozen?, hcb]
      have y3 := below_cells (B9.out) x3
      have y14 := below_cells (B9.out) z14
      have w6 := cells_get Y9.out 6
      have g6 := thawed Y9.out 6
      obtain ⟨W11, hW11⟩ : ∃ W11, W11 = ((W9.setCell ⟨c, 2, none⟩ (.int .u64 (IntKind.u64.wrap (g.last + 1)))).setCell ⟨wr.heap.size + 1, 6, none⟩ (.int .u64 (IntKind.u64.wrap (g.last + 1)))) := ⟨_, rfl⟩
      have Y11 := Lib.hid ((congrArg (fun W : World => W.heap[wr.heap.size + 1]?) hW11).trans (set_block (set_other Y9.out (show wr.heap.size + 1 ≠ c by omega) 2 (.int .u64 (IntKind.u64.wrap (g.last + 1)))) 6 (.int .u64 (IntKind.u64.wrap (g.last + 1)))))
      have C11 := Lib.hid ((congrArg (fun W : World => W.heap[c]?) hW11).trans (set_other (set_block hcb 2 (.int .u64 (IntKind.u64.wrap (g.last + 1)))) (show c ≠ wr.heap.size + 1 by omega) 6 (.int .u64 (IntKind.u64.wrap (g.last + 1)))))
      have MM := Lib.hid (show Mod (fun k => k = c) w W11 by rw [hW11]; exact ((Mod.of_below (F := fun k => k = c) (B5.out.trans (B9.out.mono B5.out.size))).setCell (p := ⟨c, 2, none⟩) (.inl rfl) _).setCell (p := ⟨wr.heap.size + 1, 6, none⟩) (.inr (show w.heap.size ≤ wr.heap.size + 1 by omega)) _)
      have O11 := Lib.hid (show ∀ k, k ≠ c → k ≠ wr.heap.size + 1 → W11.heap[k]? = W9.heap[k]? from fun k h1 h2 => by rw [hW11]; exact set_other (set_other rfl h1 _ _) h2 _ _)
      have hs11 : W11.heap.size = W9.heap.size := by rw [hW11]; simp [World.setCell]
      have hs9 : wr.heap.size + 2 ≤ W9.heap.size := by have := lt_block Y9.out; omega
      have M11 := Lib.hid (M9.out.kept (O11.out wr.heap.size (by omega) (by omega)))
      have hne7 : ∀ k, (Value.slice q7 n.vec.length k7).ownBlock = some k → k ≠ c ∧ k ≠ wr.heap.size + 1 := fun k e => by have := (U9.out.lt k e).1; omega
      have U11 := Lib.hid (show W11.ownsRow W6.heap.size 21 1 (.slice q7 n.vec.length k7) n.vec.length (n.vec.map (Value.int .i32)) by rw [hW11]; exact (U9.out.kept (grownBy_setCells c [_] 2 _) (.inr (fun e => (hne7 _ e).1 rfl))).kept (grownBy_setCells (wr.heap.size + 1) [_] 6 _) (.inr (fun e => (hne7 _ e).2 rfl)))
      have z7w : W11.cell? ⟨w.heap.size, 7, none⟩ = some (.int .u64 n.id) := by rw [World.cell?_of_block (O11.out w.heap.size (by omega) (by omega))]; exact below_cells B9.out z7
      have x0w : W11.cell? ⟨c, 0, none⟩ = some (.int .i64 g.shards) := cells_get C11.out 0
      clear hcb hne7
      go_wp2_with fail
      rw [← hW11]
      clear hW11
      clear y2 yf2 y3 y14 w6 g6
      have S11 := Lib.hid (PartsAt.start Y11.out rfl)
      have hb11 := lt_block Y11.out
      have hsh := OK.out.shards
      clear hs11 hs9 z7w
      obtain ⟨wo, rfl⟩ : ∃ wo : World, wo = wr := ⟨_, rfl⟩
      go_loopg [146] g.shards.toNat (fun q i wr => ∃ (k : Nat) (pv : Value), q = g.shards.toNat - k ∧ k ≤ g.shards.toNat ∧ i = .int .i64 k ∧ PartsAt W11 wr (wo.heap.size + 1) k _ 85 pv)
      case atStart => exact ⟨0, _, rfl, by omega, rfl, S11.out⟩
      case round =>
        obtain ⟨k, pv, rfl, hk, rfl, hP⟩ := hrel
        obtain ⟨pp, pn, pc, rfl⟩ := own_form hP.own
        obtain rfl : pn = k := own_len hP.own
        have c18 := cells_get hP.blk 18
        have f18 := thawed hP.blk 18
        have P := Lib.hid hP
        have hsq := hP.mod.size
        clear hP
        by_cases hlt : (pn : Int) < g.shards
        · obtain ⟨g5, c5, w5, hrun, hown5, hg5, hat5, hlt5⟩ := run_push rowI64 P.out.own hsq #[.int .i64 ((pn : Int) + 1)] rfl (by simp [Value.oneCell']) (by simp [maxLen]; omega) (by omega)
          have ST := Lib.hid (P.out.step hb11 hg5 hown5)
          have hc5 : w5.heap[wo.heap.size + 1]? = wr.heap[wo.heap.size + 1]? := by
            rw [hg5.block _ (by simp; omega) (fun e => by have := (P.out.own.lt _ e.symm).1; omega)]
            exact Below.heap_alloc wr _ _ (by omega)
          have y18 := (World.cell?_of_block (a := ⟨wo.heap.size + 1, 18, none⟩) hc5).trans c18
          have yf18 : w5.frozen? ⟨wo.heap.size + 1, 18, none⟩ = false := thawed (hc5.trans P.out.blk) 18
          clear hown5 hg5 hat5 hlt5 hc5
          go_wp2_with (with_reducible refine wpList_append_eq hrun rfl _ _ rfl rfl rfl ?_)
          go_roundg (g.shards.toNat - (pn + 1))
          case measure => omega
          case rel => exact ⟨pn + 1, _, rfl, by omega, by go_num, ST.out⟩
        · obtain rfl : pn = g.shards.toNat := by omega
          obtain ⟨W13, rfl⟩ : ∃ W13 : World, W13 = wr := ⟨_, rfl⟩
          have hP := P.out
          have C13 := (hP.mod.block c (by omega) (by omega)).trans C11.out
          have M13 : Mod (fun k => k = c) w W13 := MM.out.trans hP.mod (fun k h1 h2 => by omega)
          have T13 : MapAt W13 (Value.int .i64) wo.heap.size [] := M11.out.kept (hP.mod.block _ (by omega) (by omega))
          have U13 : W13.ownsRow W6.heap.size 21 1 (.slice q7 n.vec.length k7) n.vec.length (n.vec.map (Value.int .i32)) :=
            U11.out.kept (grownBy_of_mod hP.mod) (.inr (fun e => by have := (U11.out.lt _ e).1; omega))
          have Q13 := QAt.made (R := newR w.heap.size W13.heap.size wo.heap.size) (frm := frm) (stamp := stamp) (mark := mark) (L := IntKind.u64.wrap (g.last + 1)) hP.blk (by rfl) ⟨by omega, by omega, by omega⟩ V.out RQ.out.1 (Nums.of_own U13) (fun k e => by have := U13.lt k e; exact ⟨by omega, this.2, by omega⟩) (Nums.of_own hP.own) (fun k e => by have := hP.own.lt k e; exact ⟨by omega, this.2, by omega⟩) T13
          have PSL := Lib.hid (show (madeQ n frm stamp mark (IntKind.u64.wrap (g.last + 1)) (upTo g.shards.toNat)).parts.length ≤ 1000 by simp only [madeQ, upTo_length]; omega)
          have AQ := Lib.hid (show askQ g frm n stamp mark = madeQ n frm stamp mark (IntKind.u64.wrap (g.last + 1)) (upTo g.shards.toNat) by unfold askQ madeQ; rw [if_neg (by have := V0.out.1; omega)]; rfl)
          have hw13 : wo.heap.size + 1 < W13.heap.size := by omega
          clear T13 U13 hP
          have hl8' : g.l.length ≤ 8 := OK.out.most
          have R13 : W13.ownsRow B 82 1 (.slice p g.l.length cap) g.l.length (Q.map Qp.ptr) := G0.out.row.kept (grownBy_of_mod M13) (.inr (fun e => (G0.out.lvF _ e).2 rfl))
          obtain ⟨g4, c4, W14, hrun, hown4, hg4, hat4, hlt4⟩ := run_push rowQ R13 (by have := HBB.out; omega) #[.pointer (some ⟨wo.heap.size + 1, 0, none⟩)] rfl (by simp [Value.oneCell']) (by simp [maxLen]; omega) (by omega)
          have FIN := Lib.hid (G0.out.asked (x := ⟨wo.heap.size + 1, wo.heap.size, _, _, _, _, _⟩) HBB.out M13 C13 Q13 ⟨show w.heap.size ≤ wo.heap.size by omega, show wo.heap.size < W13.heap.size by omega⟩ hown4 hg4 hat4 hlt4 rfl)
          have hc14 : W14.heap[c]? = W13.heap[c]? := by rw [hg4.block c (by simp; omega) (fun e => (G0.out.lvF _ e.symm).2 rfl)]; exact Below.heap_alloc W13 _ c (by omega)
          have y3w := (World.cell?_of_block (a := ⟨c, 3, none⟩) hc14).trans (cells_get C13 3)
          have yfw : W14.frozen? ⟨c, 3, none⟩ = false := thawed (hc14.trans C13) 3
          have c13 := cells_get C13 3
          have MW := Lib.hid M13.size
          clear hown4 hg4 hat4 hlt4 C13 Q13 M13 hc14 R13
          go_wp2_with (with_reducible refine wpList_append_eq hrun rfl _ _ rfl rfl rfl ?_)
          have L5 := Lib.hid (looks _ _ _ _ _ _ _ _ _ _ FIN.out.2.2.2 PSL.out HLN.out.2.2.1)
          refine L5.out.mono ?_
          intro e w3 hN
          have FIN2 := Lib.hid (show GTold w B c F R (fun _ => False) _ _ e w3 from by
            obtain ⟨⟨F', R', f1, f2, f3⟩, f4, f5, f6⟩ := FIN.out
            exact GTold.after (E := fun _ => False) f1 f4 f2 (fun k hk => (f3 k hk).imp id .inr) f5 hN)
          obtain ⟨v3, rs3, G3, rfl, -⟩ := hN
          go_wp2_with fail
          go_ret
          rw [AZ.out, AQ.out]
          exact FIN2.out

end Go.Proofs.YtfmlhdikagogcaaDoor
