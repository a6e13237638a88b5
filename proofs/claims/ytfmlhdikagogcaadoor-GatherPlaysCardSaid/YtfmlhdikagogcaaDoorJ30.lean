/-
  gather: Hear: a part has told, not the last one.
-/
import Derived.Test.YtfmlhdikagogcaaDoorJ22
import Derived.Test.YtfmlhdikagogcaaDoorJ27
namespace Go.Proofs.YtfmlhdikagogcaaDoor
open Go.RowKit
set_option maxRecDepth 20000


/-- nothing is told; more is read -/
theorem GTold.silent {w w' : World} {B c : Nat} {F R R' E : Nat → Prop} {g : Gz} (h : GAt w' B c F R' g) (hm : Mod F w w') (hR : ∀ k, R' k → R k ∨ E k ∨ w.heap.size ≤ k) : GTold w B c F R E [] g (.returned (.slice Option.none 0 0)) w' :=
  ⟨_, [], fun _ => False, F, R', rfl, World.ownsRow_nil _ _ _ _, rfl, fun r hr => absurd hr (by simp), fun _ h => h.elim, fun k h => by simp [Value.ownBlock] at h, h, hm, fun _ h => .inl h, hR⟩

set_option maxHeartbeats 4000000 in
theorem hearMore
    (B c : Nat) (F R E : Nat → Prop) (g : Gz) (n : Nt) (vp vo vv vh : Value) (frm : Int) (w : World) (hT : Tab w) (hG : GAt w B c F R g) (hB : B ≤ w.heap.size) (hok : GOk g) (hv : NoteV w E n vp vo vv vh) (hkd : 0 ≤ n.kind ∧ n.kind ≤ 255) (hlen : n.parts.length ≤ 1000000 ∧ n.ops.length ≤ 1000000 ∧ n.vec.length ≤ 1000000 ∧ n.hits.length ≤ 1000000) (hE : ∀ k, E k → k < w.heap.size ∧ ¬ F k)
    (hodd : oddB frm n 10 = false) (k : Nat) (hk : k < g.l.length) (hp : hearP n g.l[k] = true) (hmin : ∀ j (h : j < g.l.length), j < k → hearP n g.l[j] = false) (hnt : hasTold g.l[k].told frm = false) (hpt : (g.l[k].parts.any fun y => decide (frm = y)) = true)
    (hcode : n.code = 0) (hmore : g.l[k].told.length + 1 < g.l[k].parts.length) :
    Calls Tryd.prog 13 #[.pointer (some ⟨c, 0, none⟩), .int .i64 frm, .agg (n.cells vp vo vv vh)] w (GTold w B c F R E (hearZ g frm n).1 (hearZ g frm n).2) := by
  obtain ⟨p0, q0, rfl, -, -, -, -⟩ := hv.parts.slice
  obtain ⟨p1, q1, rfl, -, -, -, -⟩ := id hv.ops
  obtain ⟨p2, q2, rfl, -, -, -, -⟩ := hv.vec.slice
  obtain ⟨p3, q3, rfl, -, -, -, -⟩ := id hv.hits
  obtain ⟨W1, hW1⟩ : ∃ W1, W1 = w.alloc (.cells (n.cells (.slice p0 n.parts.length q0) (.slice p1 n.ops.length q1) (.slice p2 n.vec.length q2) (.slice p3 n.hits.length q3)) 37) := ⟨_, rfl⟩
  have hB1 : Below w.heap.size w W1 := by rw [hW1]; exact (Below.refl _ _).alloc (Nat.le_refl _) _
  have y0 : W1.heap[w.heap.size]? = some (.cells (n.cells (.slice p0 n.parts.length q0) (.slice p1 n.ops.length q1) (.slice p2 n.vec.length q2) (.slice p3 n.hits.length q3)) 37 (0, 0)) := by rw [hW1]; exact heap_alloc_new _ _
  have hs1 : w.heap.size < W1.heap.size := by rw [hW1]; simp
  have OD := Lib.hid (odd frm 10 n E _ _ _ _ W1 (hT.below hB1) (hv.below hB1) hkd hlen)
  have B1 := Lib.hid hB1
  have V := Lib.hid hv
  have GG := Lib.hid hG
  have OK := Lib.hid hok
  have HR := Lib.hid (show ∀ k, R k → k < w.heap.size from by obtain ⟨lv, Q, hI⟩ := hG; exact fun k hk => (hI.apart k hk).1)
  have HBB := Lib.hid hB
  have HE := Lib.hid hE
  obtain ⟨⟨z0, -, -, -, -⟩, ⟨-, z6, -, -, -⟩, ⟨z10, -, -, -, -⟩, z15⟩ := note_get y0
  clear hT hv hkd hlen hB1 y0 hG hok hB hE
  unfold Nt.cells at *
  have AZ := Lib.hid (show hearZ g frm n = ([], toldZ g k g.l[k] (g.l[k].told ++ [(frm, n.hits)])) by rw [hearZ_at hodd hk hp hmin]; unfold hearAt; rw [hnt, hpt, if_neg (by simp), if_neg (by simpa using hcode), if_pos hmore])
  have POS := Lib.hid (posG_at hk hmin hp)
  have HC := Lib.hid hcode
  have HM := Lib.hid hmore
  clear hmin hp hcode hmore
  rw [hodd] at OD
  have OB := Lib.hid hodd
  clear hodd
  go_enter Tryd.func13, Tryd.ntmps13
  go_wp2_with fail
  rw [← hW1]
  clear hW1
  refine OD.out.mono ?_
  rintro e W2 ⟨rfl, hb2⟩
  clear OD
  obtain ⟨lv, Q, h0⟩ := GG.out
  have hI := h0.below (B1.out.trans (hb2.mono B1.out.size))
  obtain ⟨-, -, -, x3, -⟩ := hI.get
  obtain ⟨p, m, cap, rfl⟩ := own_form hI.row
  obtain rfl : m = g.l.length := own_len hI.row
  have B2 := Lib.hid (B1.out.trans (hb2.mono B1.out.size))
  have II := Lib.hid hI
  have G0 := Lib.hid h0
  replace z0 := below_cells hb2 z0
  replace z6 := below_cells hb2 z6
  replace z10 := below_cells hb2 z10
  replace z15 := below_cells hb2 z15
  have hl8 := OK.out.most
  have hs2 : w.heap.size < W2.heap.size := by have := hb2.size; omega
  have IX := Lib.hid (indexHear (.pointer (some ⟨w.heap.size, 0, none⟩)) (.slice p g.l.length cap) (hearP n) g.l (Q.map Qp.b) B W2 (by rw [List.length_map, hI.len]) (by omega) (by rw [← ptr_map]; exact hI.row) (fun i h1 h2 w' hb => by
    have h1' : i < Q.length := by simpa using h1
    have hq := (hI.each i h1' h2)
    obtain ⟨-, ⟨-, x6, -, -, -⟩, -, -⟩ := hq.get
    have e1 : (Q.map Qp.b)[i] = Q[i].b := by simp
    rw [e1]
    exact hear1 Q[i].b w.heap.size g.l[i].note.query n.query w' (below_cells hb x6) (below_cells hb z6)))
  clear hb2 h0 hI
  go_wp2_with fail
  refine IX.out.mono ?_
  rintro e W3 ⟨rfl, hb3⟩
  clear IX
  rw [POS.out]
  have I3 := Lib.hid (II.out.below hb3)
  have B3 := Lib.hid (B2.out.trans (hb3.mono B2.out.size))
  replace x3 := below_cells hb3 x3
  replace z10 := below_cells hb3 z10
  replace z15 := below_cells hb3 z15
  have hs3 : w.heap.size < W3.heap.size := by have := hb3.size; omega
  have hkQ : k < Q.length := by rw [I3.out.len]; exact hk
  obtain ⟨b, rfl, -, c0⟩ := row_elem I3.out.row (i := k) (by simpa using hkQ)
  have c1 : W3.cell? ⟨b, k, none⟩ = some (.pointer (some ⟨Q[k].b, 0, none⟩)) := by rw [c0]; simp [Qp.ptr]
  have QQ := Lib.hid (I3.out.each k hkQ hk)
  obtain ⟨⟨-, -, -, q3x, -⟩, -, ⟨-, -, -, -, q14⟩, ⟨-, q16, q17, q18, q19⟩⟩ := QQ.out.get
  obtain ⟨L, hM, hTo⟩ := QQ.out.told
  have hlk := run_look koInt Tryd.underlying83 hM (zeroHits W3) frm true
  have TG := Lib.hid (told_get hTo frm)
  obtain ⟨pp, pc, hpv, -, -, -, -⟩ := QQ.out.parts.slice
  rw [hpv] at q18
  have CI := Lib.hid (containsInt frm g.l[k].parts _ W3 QQ.out.parts)
  rw [hpv] at CI
  have ML := Lib.hid (And.intro hM hTo)
  have PV := Lib.hid hpv
  clear hb3 z6 z0 c0 hM hTo hpv
  have t2 : getK L frm = none := by
    rcases TG.out with ⟨-, t2⟩ | ⟨t1, -⟩
    · exact t2
    · rw [hnt] at t1; exact Bool.noConfusion t1
  rw [t2] at hlk
  simp only [if_true, Option.getD_none, Option.isSome_none] at hlk
  rw [hpt] at CI
  have NL := Lib.hid t2
  clear t2 hnt hpt TG
  have e1 : (n.code != 0) = false := by rw [HC.out]; rfl
  go_wp2_with fail
  refine CI.out.mono ?_
  rintro e W4 ⟨rfl, rfl⟩
  go_wp2_with fail
  obtain ⟨W5, hW5⟩ : ∃ W5, W5 = W4.drew := ⟨_, rfl⟩
  have b5 : Below W4.heap.size W4 W5 := by rw [hW5]; exact (Below.refl _ _).drew
  have hM5 : MapAt W5 (Value.int .i64) Q[k].mb L := ML.out.1.kept (by rw [hW5]; rfl)
  replace z15 := below_cells b5 z15
  have q19c := q19
  replace q19 := below_cells b5 q19
  have I5 := Lib.hid (I3.out.below b5)
  have QQ5 := Lib.hid (QQ.out.below b5)
  have T5 := Lib.hid (ML.out.2.below b5)
  have B5 := Lib.hid (B3.out.trans (b5.mono B3.out.size))
  obtain ⟨W6, hput, hM6, hg6, hs6⟩ := run_put koInt Tryd.underlying83 hM5 frm (.slice p3 n.hits.length q3)
  have hs5 := b5.size
  have HW := Lib.hid hW5
  have M6 := Lib.hid (And.intro hM6 (And.intro hg6 hs6))
  clear hW5 hM5 hM6 hg6 hs6
  refine region_goN 7 (fun w' => w'.cell? ⟨w.heap.size, 15, none⟩ = some (.slice p3 n.hits.length q3) ∧ w'.cell? ⟨Q[k].b, 19, none⟩ = some (.map (some Q[k].mb))) (by kernel_rfl) ?hS0 (fun hH => ?_)
  case hS0 =>
    rw [← HW.out]; exact ⟨z15, q19⟩
  rw [← HW.out] at hH ⊢
  refine kYN 0 hH ?_
  repeat simp only [Act.put, uA1, uB1, uC1]
  refine kYN 1 hH ?_
  repeat simp only [Act.put, uA1, uB1, uC1]
  refine kYN 2 hH ?_
  repeat simp only [Act.put, uA1, uB1, uC1]
  refine kYN 3 hH ?_
  repeat simp only [Act.put, uA1, uB1, uC1]
  refine kYN 4 hH ?_
  repeat simp only [Act.put, uA1, uB1, uC1]
  refine kYN 5 hH ?_
  repeat simp only [Act.put, uA1, uB1, uC1]
  refine kYN 6 hH ?_
  repeat simp only [Act.put, uA1, uB1, uC1]
  refine spkL rfl (by decide +kernel) (by rfl) (fun K' hK => ?_)
  go_simp
  try dsimp only
  refine hK.out _ _ ?_
  clear hK K' hH; repeat simp only [Act.put, uA1, uB1, uC1]
  refine anyBut_done (by decide +kernel) ?_ _
  skip
  have hA6 : ∀ j, j < W5.heap.size → ¬ F j → W6.heap[j]? = W5.heap[j]? := fun j h1 h2 => M6.out.2.1.block j h1 (fun e => h2 (by rw [Option.some.inj e]; exact (I5.out.mbF Q[k] (List.getElem_mem hkQ)).1))
  have hE6 : ∀ j, E j → W6.heap[j]? = W5.heap[j]? := fun j hj => hA6 j (Nat.lt_of_lt_of_le (HE.out j hj).1 B5.out.size) (HE.out j hj).2
  have T6 := Lib.hid (((T5.out.agree (fun j hj => hA6 j (I5.out.apart j hj).1 (I5.out.apart j hj).2)).mono (G := fun j => R j ∨ E j) fun _ => .inl).snoc (p := frm) (((V.out.hits.below B5.out).agree hE6).mono fun _ => .inr))
  obtain ⟨L6, hL6⟩ : ∃ L6, L6 = L ++ [(frm, Value.slice p3 n.hits.length q3)] := ⟨_, rfl⟩
  have MP6 : MapAt W6 (Value.int .i64) Q[k].mb L6 := by rw [hL6, ← putK_none NL.out]; exact M6.out.1
  rw [← hL6] at T6
  have P6 := Lib.hid (I5.out.put hkQ hk (fun j hj => ⟨Nat.lt_of_lt_of_le (HE.out j hj).1 B5.out.size, (HE.out j hj).2⟩) M6.out.2.1 MP6 T6.out)
  have LL6 := Lib.hid (show L6.length = g.l[k].told.length + 1 by have := T6.out.1; simpa using this)
  have hbk : W6.heap[Q[k].b]? = W4.heap[Q[k].b]? := by rw [hA6 _ (I5.out.apart _ QQ5.out.own).1 (I5.out.apart _ QQ5.out.own).2, b5.block _ (I3.out.apart _ QQ.out.own).1]
  have r3 := (World.cell?_of_block (a := ⟨Q[k].b, 3, none⟩) hbk).trans q3x
  have r14 := (World.cell?_of_block (a := ⟨Q[k].b, 14, none⟩) hbk).trans q14
  have r16 := (World.cell?_of_block (a := ⟨Q[k].b, 16, none⟩) hbk).trans q16
  have r17 := (World.cell?_of_block (a := ⟨Q[k].b, 17, none⟩) hbk).trans q17
  have r18 := (World.cell?_of_block (a := ⟨Q[k].b, 18, none⟩) hbk).trans q18
  have r19 := (World.cell?_of_block (a := ⟨Q[k].b, 19, none⟩) hbk).trans q19c
  replace hbk := Lib.hid hbk
  clear hA6 hE6 hL6 hput b5
  go_wp2_with fail
  obtain ⟨W7, hW7⟩ : ∃ W7, W7 = W6.drew := ⟨_, rfl⟩
  have b7 : Below W6.heap.size W6 W7 := by rw [hW7]; exact (Below.refl _ _).drew
  have MP7 : MapAt W7 (Value.int .i64) Q[k].mb L6 := MP6.kept (by rw [hW7]; rfl)
  have hln : ∀ W, MapAt W (Value.int .i64) Q[k].mb L6 → ∀ ty, (Builtin.len_ #[83] ty #[.map (some Q[k].mb)]).run Tryd.prog W = .ok (.int .i64 L6.length) W := fun W h ty => run_len Tryd.underlying83 h ty
  replace r3 := below_cells b7 r3
  replace r14 := below_cells b7 r14
  replace r16 := below_cells b7 r16
  replace r17 := below_cells b7 r17
  replace r18 := below_cells b7 r18
  replace r19 := below_cells b7 r19
  have B7 := Lib.hid b7
  have HW7 := Lib.hid hW7
  clear hW7 b7 MP6
  refine region_go (fun w' => w'.cell? ⟨Q[k].b, 19, none⟩ = some (.map (some Q[k].mb)) ∧ w'.cell? ⟨Q[k].b, 18, none⟩ = some (.slice pp g.l[k].parts.length pc) ∧ MapAt w' (Value.int .i64) Q[k].mb L6) (by kernel_rfl) ?hS0 (fun hH => ?_)
  case hS0 =>
    rw [← HW7.out]; exact ⟨r19, r18, MP7⟩
  rw [← HW7.out] at hH ⊢
  refine kY 0 hH ?_
  repeat simp only [Act.put, uA1, uB1, uC1]
  refine kY 1 hH ?_
  repeat simp only [Act.put, uA1, uB1, uC1]
  refine kY 2 hH ?_
  repeat simp only [Act.put, uA1, uB1, uC1]
  refine kY 3 hH ?_
  repeat simp only [Act.put, uA1, uB1, uC1]
  refine kY 4 hH ?_
  repeat simp only [Act.put, uA1, uB1, uC1]
  refine kY 5 hH ?_
  repeat simp only [Act.put, uA1, uB1, uC1]
  refine kY 6 hH ?_
  repeat simp only [Act.put, uA1, uB1, uC1]
  refine kY 7 hH ?_
  repeat simp only [Act.put, uA1, uB1, uC1]
  refine kY 8 hH ?_
  repeat simp only [Act.put, uA1, uB1, uC1]
  refine kY 9 hH ?_
  repeat simp only [Act.put, uA1, uB1, uC1]
  refine kY 10 hH ?_
  repeat simp only [Act.put, uA1, uB1, uC1]
  refine wpAnyH_done (by decide +kernel) ?_ _
  clear hH
  have hlt6 : L6.length < g.l[k].parts.length := by have := HM.out; have := LL6.out; omega
  have G7 := Lib.hid (And.intro (P6.out.1.below B7.out) (((Mod.of_below B5.out).trans P6.out.2 (fun _ _ h => h)).andBelow B7.out))
  clear hln MP7 r3 r14 r16 r17 r18 r19
  go_wp2_with fail
  go_ret
  rw [AZ.out]
  exact GTold.silent ⟨_, _, G7.out.1⟩ G7.out.2 (fun j hj => hj.imp id .inl)

end Go.Proofs.YtfmlhdikagogcaaDoor
