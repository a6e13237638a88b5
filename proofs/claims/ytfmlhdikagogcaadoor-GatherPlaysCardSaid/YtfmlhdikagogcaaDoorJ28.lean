/-
  gather: Hear: an odd note; no such question; one that has told, or is not asked.
-/
import Derived.Test.YtfmlhdikagogcaaDoorJ22
namespace Go.Proofs.YtfmlhdikagogcaaDoor
open Go.RowKit
set_option maxRecDepth 20000


theorem hearOdd
    (B c : Nat) (F R E : Nat → Prop) (g : Gz) (n : Nt) (vp vo vv vh : Value) (frm : Int) (w : World) (hT : Tab w) (hG : GAt w B c F R g) (hB : B ≤ w.heap.size) (hok : GOk g) (hv : NoteV w E n vp vo vv vh) (hkd : 0 ≤ n.kind ∧ n.kind ≤ 255) (hlen : n.parts.length ≤ 1000000 ∧ n.ops.length ≤ 1000000 ∧ n.vec.length ≤ 1000000 ∧ n.hits.length ≤ 1000000) (hE : ∀ k, E k → k < w.heap.size ∧ ¬ F k)
    (hodd : oddB frm n 10 = true) :
    Calls Tryd.prog 13 #[.pointer (some ⟨c, 0, none⟩), .int .i64 frm, .agg (n.cells vp vo vv vh)] w (GTold w B c F R E (hearZ g frm n).1 (hearZ g frm n).2) := by
  obtain ⟨p0, q0, rfl, -, -, -, -⟩ := hv.parts.slice
  obtain ⟨p1, q1, rfl, -, -, -, -⟩ := id hv.ops
  obtain ⟨p2, q2, rfl, -, -, -, -⟩ := hv.vec.slice
  obtain ⟨p3, q3, rfl, -, -, -, -⟩ := id hv.hits
  obtain ⟨W1, hW1⟩ : ∃ W1, W1 = w.alloc (.cells (n.cells (.slice p0 n.parts.length q0) (.slice p1 n.ops.length q1) (.slice p2 n.vec.length q2) (.slice p3 n.hits.length q3)) 37) := ⟨_, rfl⟩
  have hB1 : Below w.heap.size w W1 := by rw [hW1]; exact (Below.refl _ _).alloc (Nat.le_refl _) _
  have y0 : W1.heap[w.heap.size]? = some (.cells (n.cells (.slice p0 n.parts.length q0) (.slice p1 n.ops.length q1) (.slice p2 n.vec.length q2) (.slice p3 n.hits.length q3)) 37 (0, 0)) := by rw [hW1]; exact heap_alloc_new _ _
  have hs1 : w.heap.size < W1.heap.size := by rw [hW1]; simp
  have OD := Lib.hid (odd frm 10 n E _ _ _ _ W1 (hT.below hB1) (hv.below hB1) hkd hlen)
  have B1 := Lib.hid hB1
  have V := Lib.hid hv
  have GG := Lib.hid hG
  have OK := Lib.hid hok
  have HR := Lib.hid (show ∀ k, R k → k < w.heap.size from by obtain ⟨lv, Q, hI⟩ := hG; exact fun k hk => (hI.apart k hk).1)
  have HBB := Lib.hid hB
  have HE := Lib.hid hE
  obtain ⟨⟨z0, -, -, -, -⟩, ⟨-, z6, -, -, -⟩, ⟨z10, -, -, -, -⟩, z15⟩ := note_get y0
  clear hT hv hkd hlen hB1 y0 hG hok hB hE
  unfold Nt.cells at *
  have AZ := Lib.hid (show hearZ g frm n = ([], g) by unfold hearZ; rw [hodd, if_pos rfl])
  rw [hodd] at OD
  clear hodd
  go_enter Tryd.func13, Tryd.ntmps13
  go_wp2_with fail
  rw [← hW1]
  refine OD.out.mono ?_
  rintro e w2 ⟨rfl, hb2⟩
  have B2 := Lib.hid (B1.out.trans (hb2.mono B1.out.size))
  clear hb2
  go_wp2_with fail
  go_ret
  rw [AZ.out]
  exact GTold.none (GG.out.below B2.out) (Mod.of_below B2.out)

theorem hear_nil (n : Nt) (vp vo vv vh : Value) (frm : Int) (w : World) :
    Calls Tryd.prog 13 #[.pointer none, .int .i64 frm, .agg (n.cells vp vo vv vh)] w fun e w' => e = .returned (.slice none 0 0) ∧ Below w.heap.size w w' := by
  unfold Nt.cells
  go_enter Tryd.func13, Tryd.ntmps13
  go_wp2_with fail
  go_ret
  exact ⟨rfl, (Below.refl _ _).alloc (Nat.le_refl _) _⟩

theorem hearNone
    (B c : Nat) (F R E : Nat → Prop) (g : Gz) (n : Nt) (vp vo vv vh : Value) (frm : Int) (w : World) (hT : Tab w) (hG : GAt w B c F R g) (hB : B ≤ w.heap.size) (hok : GOk g) (hv : NoteV w E n vp vo vv vh) (hkd : 0 ≤ n.kind ∧ n.kind ≤ 255) (hlen : n.parts.length ≤ 1000000 ∧ n.ops.length ≤ 1000000 ∧ n.vec.length ≤ 1000000 ∧ n.hits.length ≤ 1000000) (hE : ∀ k, E k → k < w.heap.size ∧ ¬ F k)
    (hodd : oddB frm n 10 = false) (hno : ∀ j (h : j < g.l.length), hearP n g.l[j] = false) :
    Calls Tryd.prog 13 #[.pointer (some ⟨c, 0, none⟩), .int .i64 frm, .agg (n.cells vp vo vv vh)] w (GTold w B c F R E (hearZ g frm n).1 (hearZ g frm n).2) := by
  obtain ⟨p0, q0, rfl, -, -, -, -⟩ := hv.parts.slice
  obtain ⟨p1, q1, rfl, -, -, -, -⟩ := id hv.ops
  obtain ⟨p2, q2, rfl, -, -, -, -⟩ := hv.vec.slice
  obtain ⟨p3, q3, rfl, -, -, -, -⟩ := id hv.hits
  obtain ⟨W1, hW1⟩ : ∃ W1, W1 = w.alloc (.cells (n.cells (.slice p0 n.parts.length q0) (.slice p1 n.ops.length q1) (.slice p2 n.vec.length q2) (.slice p3 n.hits.length q3)) 37) := ⟨_, rfl⟩
  have hB1 : Below w.heap.size w W1 := by rw [hW1]; exact (Below.refl _ _).alloc (Nat.le_refl _) _
  have y0 : W1.heap[w.heap.size]? = some (.cells (n.cells (.slice p0 n.parts.length q0) (.slice p1 n.ops.length q1) (.slice p2 n.vec.length q2) (.slice p3 n.hits.length q3)) 37 (0, 0)) := by rw [hW1]; exact heap_alloc_new _ _
  have hs1 : w.heap.size < W1.heap.size := by rw [hW1]; simp
  have OD := Lib.hid (odd frm 10 n E _ _ _ _ W1 (hT.below hB1) (hv.below hB1) hkd hlen)
  have B1 := Lib.hid hB1
  have V := Lib.hid hv
  have GG := Lib.hid hG
  have OK := Lib.hid hok
  have HR := Lib.hid (show ∀ k, R k → k < w.heap.size from by obtain ⟨lv, Q, hI⟩ := hG; exact fun k hk => (hI.apart k hk).1)
  have HBB := Lib.hid hB
  have HE := Lib.hid hE
  obtain ⟨⟨z0, -, -, -, -⟩, ⟨-, z6, -, -, -⟩, ⟨z10, -, -, -, -⟩, z15⟩ := note_get y0
  clear hT hv hkd hlen hB1 y0 hG hok hB hE
  unfold Nt.cells at *
  have AZ := Lib.hid (hearZ_none hodd hno)
  have POS := Lib.hid (posG_none hno)
  clear hno
  rw [hodd] at OD
  have OB := Lib.hid hodd
  clear hodd
  go_enter Tryd.func13, Tryd.ntmps13
  go_wp2_with fail
  rw [← hW1]
  clear hW1
  refine OD.out.mono ?_
  rintro e W2 ⟨rfl, hb2⟩
  clear OD
  obtain ⟨lv, Q, h0⟩ := GG.out
  have hI := h0.below (B1.out.trans (hb2.mono B1.out.size))
  obtain ⟨-, -, -, x3, -⟩ := hI.get
  obtain ⟨p, m, cap, rfl⟩ := own_form hI.row
  obtain rfl : m = g.l.length := own_len hI.row
  have B2 := Lib.hid (B1.out.trans (hb2.mono B1.out.size))
  have II := Lib.hid hI
  have G0 := Lib.hid h0
  replace z0 := below_cells hb2 z0
  replace z6 := below_cells hb2 z6
  replace z10 := below_cells hb2 z10
  replace z15 := below_cells hb2 z15
  have hl8 := OK.out.most
  have hs2 : w.heap.size < W2.heap.size := by have := hb2.size; omega
  have IX := Lib.hid (indexHear (.pointer (some ⟨w.heap.size, 0, none⟩)) (.slice p g.l.length cap) (hearP n) g.l (Q.map Qp.b) B W2 (by rw [List.length_map, hI.len]) (by omega) (by rw [← ptr_map]; exact hI.row) (fun i h1 h2 w' hb => by
    have h1' : i < Q.length := by simpa using h1
    have hq := (hI.each i h1' h2)
    obtain ⟨-, ⟨-, x6, -, -, -⟩, -, -⟩ := hq.get
    have e1 : (Q.map Qp.b)[i] = Q[i].b := by simp
    rw [e1]
    exact hear1 Q[i].b w.heap.size g.l[i].note.query n.query w' (below_cells hb x6) (below_cells hb z6)))
  clear hb2 h0 hI
  go_wp2_with fail
  refine IX.out.mono ?_
  rintro e W3 ⟨rfl, hb3⟩
  clear IX
  rw [POS.out]
  have B3 := Lib.hid (B2.out.trans (hb3.mono B2.out.size))
  clear hb3
  go_wp2_with fail
  go_ret
  rw [AZ.out]
  exact GTold.none (GG.out.below B3.out) (Mod.of_below B3.out)

theorem hearSkip
    (B c : Nat) (F R E : Nat → Prop) (g : Gz) (n : Nt) (vp vo vv vh : Value) (frm : Int) (w : World) (hT : Tab w) (hG : GAt w B c F R g) (hB : B ≤ w.heap.size) (hok : GOk g) (hv : NoteV w E n vp vo vv vh) (hkd : 0 ≤ n.kind ∧ n.kind ≤ 255) (hlen : n.parts.length ≤ 1000000 ∧ n.ops.length ≤ 1000000 ∧ n.vec.length ≤ 1000000 ∧ n.hits.length ≤ 1000000) (hE : ∀ k, E k → k < w.heap.size ∧ ¬ F k)
    (hodd : oddB frm n 10 = false) (k : Nat) (hk : k < g.l.length) (hp : hearP n g.l[k] = true) (hmin : ∀ j (h : j < g.l.length), j < k → hearP n g.l[j] = false) (hskip : (hasTold g.l[k].told frm || !(g.l[k].parts.any fun y => decide (frm = y))) = true) :
    Calls Tryd.prog 13 #[.pointer (some ⟨c, 0, none⟩), .int .i64 frm, .agg (n.cells vp vo vv vh)] w (GTold w B c F R E (hearZ g frm n).1 (hearZ g frm n).2) := by
  obtain ⟨p0, q0, rfl, -, -, -, -⟩ := hv.parts.slice
  obtain ⟨p1, q1, rfl, -, -, -, -⟩ := id hv.ops
  obtain ⟨p2, q2, rfl, -, -, -, -⟩ := hv.vec.slice
  obtain ⟨p3, q3, rfl, -, -, -, -⟩ := id hv.hits
  obtain ⟨W1, hW1⟩ : ∃ W1, W1 = w.alloc (.cells (n.cells (.slice p0 n.parts.length q0) (.slice p1 n.ops.length q1) (.slice p2 n.vec.length q2) (.slice p3 n.hits.length q3)) 37) := ⟨_, rfl⟩
  have hB1 : Below w.heap.size w W1 := by rw [hW1]; exact (Below.refl _ _).alloc (Nat.le_refl _) _
  have y0 : W1.heap[w.heap.size]? = some (.cells (n.cells (.slice p0 n.parts.length q0) (.slice p1 n.ops.length q1) (.slice p2 n.vec.length q2) (.slice p3 n.hits.length q3)) 37 (0, 0)) := by rw [hW1]; exact heap_alloc_new _ _
  have hs1 : w.heap.size < W1.heap.size := by rw [hW1]; simp
  have OD := Lib.hid (odd frm 10 n E _ _ _ _ W1 (hT.below hB1) (hv.below hB1) hkd hlen)
  have B1 := Lib.hid hB1
  have V := Lib.hid hv
  have GG := Lib.hid hG
  have OK := Lib.hid hok
  have HR := Lib.hid (show ∀ k, R k → k < w.heap.size from by obtain ⟨lv, Q, hI⟩ := hG; exact fun k hk => (hI.apart k hk).1)
  have HBB := Lib.hid hB
  have HE := Lib.hid hE
  obtain ⟨⟨z0, -, -, -, -⟩, ⟨-, z6, -, -, -⟩, ⟨z10, -, -, -, -⟩, z15⟩ := note_get y0
  clear hT hv hkd hlen hB1 y0 hG hok hB hE
  unfold Nt.cells at *
  have AZ := Lib.hid (show hearZ g frm n = ([], g) by rw [hearZ_at hodd hk hp hmin]; unfold hearAt; rw [if_pos hskip])
  have POS := Lib.hid (posG_at hk hmin hp)
  clear hmin hp
  rw [hodd] at OD
  have OB := Lib.hid hodd
  clear hodd
  go_enter Tryd.func13, Tryd.ntmps13
  go_wp2_with fail
  rw [← hW1]
  clear hW1
  refine OD.out.mono ?_
  rintro e W2 ⟨rfl, hb2⟩
  clear OD
  obtain ⟨lv, Q, h0⟩ := GG.out
  have hI := h0.below (B1.out.trans (hb2.mono B1.out.size))
  obtain ⟨-, -, -, x3, -⟩ := hI.get
  obtain ⟨p, m, cap, rfl⟩ := own_form hI.row
  obtain rfl : m = g.l.length := own_len hI.row
  have B2 := Lib.hid (B1.out.trans (hb2.mono B1.out.size))
  have II := Lib.hid hI
  have G0 := Lib.hid h0
  replace z0 := below_cells hb2 z0
  replace z6 := below_cells hb2 z6
  replace z10 := below_cells hb2 z10
  replace z15 := below_cells hb2 z15
  have hl8 := OK.out.most
  have hs2 : w.heap.size < W2.heap.size := by have := hb2.size; omega
  have IX := Lib.hid (indexHear (.pointer (some ⟨w.heap.size, 0, none⟩)) (.slice p g.l.length cap) (hearP n) g.l (Q.map Qp.b) B W2 (by rw [List.length_map, hI.len]) (by omega) (by rw [← ptr_map]; exact hI.row) (fun i h1 h2 w' hb => by
    have h1' : i < Q.length := by simpa using h1
    have hq := (hI.each i h1' h2)
    obtain ⟨-, ⟨-, x6, -, -, -⟩, -, -⟩ := hq.get
    have e1 : (Q.map Qp.b)[i] = Q[i].b := by simp
    rw [e1]
    exact hear1 Q[i].b w.heap.size g.l[i].note.query n.query w' (below_cells hb x6) (below_cells hb z6)))
  clear hb2 h0 hI
  go_wp2_with fail
  refine IX.out.mono ?_
  rintro e W3 ⟨rfl, hb3⟩
  clear IX
  rw [POS.out]
  have I3 := Lib.hid (II.out.below hb3)
  have B3 := Lib.hid (B2.out.trans (hb3.mono B2.out.size))
  replace x3 := below_cells hb3 x3
  replace z10 := below_cells hb3 z10
  replace z15 := below_cells hb3 z15
  have hs3 : w.heap.size < W3.heap.size := by have := hb3.size; omega
  have hkQ : k < Q.length := by rw [I3.out.len]; exact hk
  obtain ⟨b, rfl, -, c0⟩ := row_elem I3.out.row (i := k) (by simpa using hkQ)
  have c1 : W3.cell? ⟨b, k, none⟩ = some (.pointer (some ⟨Q[k].b, 0, none⟩)) := by rw [c0]; simp [Qp.ptr]
  have QQ := Lib.hid (I3.out.each k hkQ hk)
  obtain ⟨⟨-, -, -, q3x, -⟩, -, ⟨-, -, -, -, q14⟩, ⟨-, q16, q17, q18, q19⟩⟩ := QQ.out.get
  obtain ⟨L, hM, hTo⟩ := QQ.out.told
  have hlk := run_look koInt Tryd.underlying83 hM (zeroHits W3) frm true
  have TG := Lib.hid (told_get hTo frm)
  obtain ⟨pp, pc, hpv, -, -, -, -⟩ := QQ.out.parts.slice
  rw [hpv] at q18
  have CI := Lib.hid (containsInt frm g.l[k].parts _ W3 QQ.out.parts)
  rw [hpv] at CI
  have ML := Lib.hid (And.intro hM hTo)
  have PV := Lib.hid hpv
  clear hb3 z6 z0 c0 hM hTo hpv
  rcases TG.out with ⟨t1, t2⟩ | ⟨t1, v, x, t2, -, -, -, hv⟩
  · rw [t2] at hlk
    simp only [if_true, Option.getD_none, Option.isSome_none] at hlk
    rw [t1, Bool.false_or] at hskip
    have hany : (g.l[k].parts.any fun y => decide (frm = y)) = false := by simpa using hskip
    rw [hany] at CI
    clear t1 t2 hskip hany
    go_wp2_with fail
    refine CI.out.mono ?_
    rintro e W4 ⟨rfl, rfl⟩
    go_wp2_with fail
    go_ret
    rw [AZ.out]
    exact GTold.none (GG.out.below B3.out) (Mod.of_below B3.out)
  · obtain ⟨vp', vc', rfl, -⟩ := id hv
    rw [t2] at hlk
    simp only [if_true, Option.getD_some, Option.isSome_some] at hlk
    clear t1 t2 hskip hv
    go_wp2_with fail
    go_ret
    rw [AZ.out]
    exact GTold.none (GG.out.below B3.out) (Mod.of_below B3.out)

end Go.Proofs.YtfmlhdikagogcaaDoor
