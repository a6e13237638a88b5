/-
  gather: Hear: one could not.
-/
import Derived.Test.YtfmlhdikagogcaaDoorJ22
import Derived.Test.YtfmlhdikagogcaaDoorJ27
namespace Go.Proofs.YtfmlhdikagogcaaDoor
open Go.RowKit
set_option maxRecDepth 20000


set_option maxHeartbeats 4000000 in
theorem hearCode
    (B c : Nat) (F R E : Nat → Prop) (g : Gz) (n : Nt) (vp vo vv vh : Value) (frm : Int) (w : World) (hT : Tab w) (hG : GAt w B c F R g) (hB : B ≤ w.heap.size) (hok : GOk g) (hv : NoteV w E n vp vo vv vh) (hkd : 0 ≤ n.kind ∧ n.kind ≤ 255) (hlen : n.parts.length ≤ 1000000 ∧ n.ops.length ≤ 1000000 ∧ n.vec.length ≤ 1000000 ∧ n.hits.length ≤ 1000000) (hE : ∀ k, E k → k < w.heap.size ∧ ¬ F k)
    (hodd : oddB frm n 10 = false) (k : Nat) (hk : k < g.l.length) (hp : hearP n g.l[k] = true) (hmin : ∀ j (h : j < g.l.length), j < k → hearP n g.l[j] = false) (hnt : hasTold g.l[k].told frm = false) (hpt : (g.l[k].parts.any fun y => decide (frm = y)) = true)
    (hcode : n.code ≠ 0) :
    Calls Tryd.prog 13 #[.pointer (some ⟨c, 0, none⟩), .int .i64 frm, .agg (n.cells vp vo vv vh)] w (GTold w B c F R E (hearZ g frm n).1 (hearZ g frm n).2) := by
  obtain ⟨p0, q0, rfl, -, -, -, -⟩ := hv.parts.slice
  obtain ⟨p1, q1, rfl, -, -, -, -⟩ := id hv.ops
  obtain ⟨p2, q2, rfl, -, -, -, -⟩ := hv.vec.slice
  obtain ⟨p3, q3, rfl, -, -, -, -⟩ := id hv.hits
  obtain ⟨W1, hW1⟩ : ∃ W1, W1 = w.alloc (.cells (n.cells (.slice p0 n.parts.length q0) (.slice p1 n.ops.length q1) (.slice p2 n.vec.length q2) (.slice p3 n.hits.length q3)) 37) := ⟨_, rfl⟩
  have hB1 : Below w.heap.size w W1 := by rw [hW1]; exact (Below.refl _ _).alloc (Nat.le_refl _) _
  have y0 : W1.heap[w.heap.size]? = some (.cells (n.cells (.slice p0 n.parts.length q0) (.slice p1 n.ops.length q1) (.slice p2 n.vec.length q2) (.slice p3 n.hits.length q3)) 37 (0, 0)) := by rw [hW1]; exact heap_alloc_new _ _
  have hs1 : w.heap.size < W1.heap.size := by rw [hW1]; simp
  have OD := Lib.hid (odd frm 10 n E _ _ _ _ W1 (hT.below hB1) (hv.below hB1) hkd hlen)
  have B1 := Lib.hid hB1
  have V := Lib.hid hv
  have GG := Lib.hid hG
  have OK := Lib.hid hok
  have HR := Lib.hid (show ∀ k, R k → k < w.heap.size from by obtain ⟨lv, Q, hI⟩ := hG; exact fun k hk => (hI.apart k hk).1)
  have HBB := Lib.hid hB
  have HE := Lib.hid hE
  obtain ⟨⟨z0, -, -, -, -⟩, ⟨-, z6, -, -, -⟩, ⟨z10, -, -, -, -⟩, z15⟩ := note_get y0
  clear hT hv hkd hlen hB1 y0 hG hok hB hE
  unfold Nt.cells at *
  have AZ := Lib.hid (show hearZ g frm n = ([(g.l[k].who, resN g.l[k].note.stamp g.l[k].query n.code [])], dropZ g k) by rw [hearZ_at hodd hk hp hmin]; unfold hearAt; rw [hnt, hpt, if_neg (by simp), if_pos hcode])
  have POS := Lib.hid (posG_at hk hmin hp)
  clear hmin hp
  rw [hodd] at OD
  have OB := Lib.hid hodd
  clear hodd
  go_enter Tryd.func13, Tryd.ntmps13
  go_wp2_with fail
  rw [← hW1]
  clear hW1
  refine OD.out.mono ?_
  rintro e W2 ⟨rfl, hb2⟩
  clear OD
  obtain ⟨lv, Q, h0⟩ := GG.out
  have hI := h0.below (B1.out.trans (hb2.mono B1.out.size))
  obtain ⟨-, -, -, x3, -⟩ := hI.get
  obtain ⟨p, m, cap, rfl⟩ := own_form hI.row
  obtain rfl : m = g.l.length := own_len hI.row
  have B2 := Lib.hid (B1.out.trans (hb2.mono B1.out.size))
  have II := Lib.hid hI
  have G0 := Lib.hid h0
  replace z0 := below_cells hb2 z0
  replace z6 := below_cells hb2 z6
  replace z10 := below_cells hb2 z10
  replace z15 := below_cells hb2 z15
  have hl8 := OK.out.most
  have hs2 : w.heap.size < W2.heap.size := by have := hb2.size; omega
  have IX := Lib.hid (indexHear (.pointer (some ⟨w.heap.size, 0, none⟩)) (.slice p g.l.length cap) (hearP n) g.l (Q.map Qp.b) B W2 (by rw [List.length_map, hI.len]) (by omega) (by rw [← ptr_map]; exact hI.row) (fun i h1 h2 w' hb => by
    have h1' : i < Q.length := by simpa using h1
    have hq := (hI.each i h1' h2)
    obtain ⟨-, ⟨-, x6, -, -, -⟩, -, -⟩ := hq.get
    have e1 : (Q.map Qp.b)[i] = Q[i].b := by simp
    rw [e1]
    exact hear1 Q[i].b w.heap.size g.l[i].note.query n.query w' (below_cells hb x6) (below_cells hb z6)))
  clear hb2 h0 hI
  go_wp2_with fail
  refine IX.out.mono ?_
  rintro e W3 ⟨rfl, hb3⟩
  clear IX
  rw [POS.out]
  have I3 := Lib.hid (II.out.below hb3)
  have B3 := Lib.hid (B2.out.trans (hb3.mono B2.out.size))
  replace x3 := below_cells hb3 x3
  replace z10 := below_cells hb3 z10
  replace z15 := below_cells hb3 z15
  have hs3 : w.heap.size < W3.heap.size := by have := hb3.size; omega
  have hkQ : k < Q.length := by rw [I3.out.len]; exact hk
  obtain ⟨b, rfl, -, c0⟩ := row_elem I3.out.row (i := k) (by simpa using hkQ)
  have c1 : W3.cell? ⟨b, k, none⟩ = some (.pointer (some ⟨Q[k].b, 0, none⟩)) := by rw [c0]; simp [Qp.ptr]
  have QQ := Lib.hid (I3.out.each k hkQ hk)
  obtain ⟨⟨-, -, -, q3x, -⟩, -, ⟨-, -, -, -, q14⟩, ⟨-, q16, q17, q18, q19⟩⟩ := QQ.out.get
  obtain ⟨L, hM, hTo⟩ := QQ.out.told
  have hlk := run_look koInt Tryd.underlying83 hM (zeroHits W3) frm true
  have TG := Lib.hid (told_get hTo frm)
  obtain ⟨pp, pc, hpv, -, -, -, -⟩ := QQ.out.parts.slice
  rw [hpv] at q18
  have CI := Lib.hid (containsInt frm g.l[k].parts _ W3 QQ.out.parts)
  rw [hpv] at CI
  have ML := Lib.hid (And.intro hM hTo)
  have PV := Lib.hid hpv
  clear hb3 z6 z0 c0 hM hTo hpv
  have t2 : getK L frm = none := by
    rcases TG.out with ⟨-, t2⟩ | ⟨t1, -⟩
    · exact t2
    · rw [hnt] at t1; exact Bool.noConfusion t1
  rw [t2] at hlk
  simp only [if_true, Option.getD_none, Option.isSome_none] at hlk
  rw [hpt] at CI
  have NL := Lib.hid t2
  clear t2 hnt hpt TG
  have e1 : (n.code != 0) = true := by simpa using hcode
  have OV := Lib.hid (over B c k F R g _ Q W3 I3.out hk hkQ (by omega))
  clear hcode
  go_wp2_with fail
  refine CI.out.mono ?_
  rintro e W4 ⟨rfl, rfl⟩
  go_wp2_with fail
  refine OV.out.mono ?_
  rintro e W5 ⟨rfl, ⟨lv', hG5⟩, hm5, -⟩
  have hA := Agree.of_mod hm5 (fun j hj => (I3.out.apart j hj).1) (fun j hj => (I3.out.apart j hj).2)
  have y3 := (hA.cell (a := ⟨Q[k].b, 3, none⟩) QQ.out.own).trans q3x
  have y16 := (hA.cell (a := ⟨Q[k].b, 16, none⟩) QQ.out.own).trans q16
  have y17 := (hA.cell (a := ⟨Q[k].b, 17, none⟩) QQ.out.own).trans q17
  have y10 := (World.cell?_of_block (a := ⟨w.heap.size, 10, none⟩) (hm5.block w.heap.size hs3 (fun hf => by have := (G0.out.low _ hf).2; omega))).trans z10
  have RS := Lib.hid (result Q[k].b g.l[k].who g.l[k].note.stamp g.l[k].query n.code [] (.slice none 0 0) (fun _ => False) W5 y3 y16 y17 (HitsF.nil _ _) (fun _ h => h.elim))
  have M5 := Lib.hid (And.intro hG5 ((Mod.of_below B3.out).trans hm5 (fun _ _ h => h)))
  clear hA hG5 hm5
  go_wp2_with fail
  refine RS.out.mono ?_
  intro e w6 hN
  have FIN := Lib.hid (GTold.after (E := E) ⟨_, _, M5.out.1⟩ M5.out.2 (fun _ h => .inl h) (fun _ h => .inl h) (fun _ h => h.elim) hN)
  obtain ⟨v3, rs3, G3, rfl, -⟩ := hN
  go_wp2_with fail
  go_ret
  rw [AZ.out]
  exact FIN.out

end Go.Proofs.YtfmlhdikagogcaaDoor
