/-
  gather: Hear: the last part has told.
-/
import Derived.Test.YtfmlhdikagogcaaDoorJ27
namespace Go.Proofs.YtfmlhdikagogcaaDoor
open Go.RowKit
set_option maxRecDepth 20000




set_option maxHeartbeats 4000000 in
theorem hearGet
    (B c : Nat) (F R E : Nat → Prop) (g : Gz) (n : Nt) (vp vo vv vh : Value) (frm : Int) (w : World) (hT : Tab w) (hG : GAt w B c F R g) (hB : B ≤ w.heap.size) (hok : GOk g) (hv : NoteV w E n vp vo vv vh) (hkd : 0 ≤ n.kind ∧ n.kind ≤ 255) (hlen : n.parts.length ≤ 1000000 ∧ n.ops.length ≤ 1000000 ∧ n.vec.length ≤ 1000000 ∧ n.hits.length ≤ 1000000) (hE : ∀ k, E k → k < w.heap.size ∧ ¬ F k)
    (hodd : oddB frm n 10 = false) (k : Nat) (hk : k < g.l.length) (hp : hearP n g.l[k] = true) (hmin : ∀ j (h : j < g.l.length), j < k → hearP n g.l[j] = false) (hnt : hasTold g.l[k].told frm = false) (hpt : (g.l[k].parts.any fun y => decide (frm = y)) = true)
    (hcode : n.code = 0) (hlast : ¬ g.l[k].told.length + 1 < g.l[k].parts.length)
    (hv0 : g.l[k].note.vec.length = 0) :
    Calls Tryd.prog 13 #[.pointer (some ⟨c, 0, none⟩), .int .i64 frm, .agg (n.cells vp vo vv vh)] w (GTold w B c F R E (hearZ g frm n).1 (hearZ g frm n).2) := by
  obtain ⟨p0, q0, rfl, -, -, -, -⟩ := hv.parts.slice
  obtain ⟨p1, q1, rfl, -, -, -, -⟩ := id hv.ops
  obtain ⟨p2, q2, rfl, -, -, -, -⟩ := hv.vec.slice
  obtain ⟨p3, q3, rfl, -, -, -, -⟩ := id hv.hits
  obtain ⟨W1, hW1⟩ : ∃ W1, W1 = w.alloc (.cells (n.cells (.slice p0 n.parts.length q0) (.slice p1 n.ops.length q1) (.slice p2 n.vec.length q2) (.slice p3 n.hits.length q3)) 37) := ⟨_, rfl⟩
  have hB1 : Below w.heap.size w W1 := by rw [hW1]; exact (Below.refl _ _).alloc (Nat.le_refl _) _
  have y0 : W1.heap[w.heap.size]? = some (.cells (n.cells (.slice p0 n.parts.length q0) (.slice p1 n.ops.length q1) (.slice p2 n.vec.length q2) (.slice p3 n.hits.length q3)) 37 (0, 0)) := by rw [hW1]; exact heap_alloc_new _ _
  have hs1 : w.heap.size < W1.heap.size := by rw [hW1]; simp
  have OD := Lib.hid (odd frm 10 n E _ _ _ _ W1 (hT.below hB1) (hv.below hB1) hkd hlen)
  have B1 := Lib.hid hB1
  have V := Lib.hid hv
  have GG := Lib.hid hG
  have OK := Lib.hid hok
  have HR := Lib.hid (show ∀ k, R k → k < w.heap.size from by obtain ⟨lv, Q, hI⟩ := hG; exact fun k hk => (hI.apart k hk).1)
  have HBB := Lib.hid hB
  have HE := Lib.hid hE
  obtain ⟨⟨z0, -, -, -, -⟩, ⟨-, z6, -, -, -⟩, ⟨z10, -, -, -, -⟩, z15⟩ := note_get y0
  clear hT hv hkd hlen hB1 y0 hG hok hB hE
  unfold Nt.cells at *
  have V0 := Lib.hid hv0
  clear hv0
  have AZ := Lib.hid (show hearZ g frm n = ([(g.l[k].who, resN g.l[k].note.stamp g.l[k].query 0 (answerZ g.l[k] (g.l[k].told ++ [(frm, n.hits)])))], dropZ g k) by rw [hearZ_at hodd hk hp hmin]; unfold hearAt; rw [hnt, hpt, if_neg (by simp), if_neg (by simpa using hcode), if_neg hlast])
  have POS := Lib.hid (posG_at hk hmin hp)
  have HC := Lib.hid hcode
  have HM := Lib.hid hlast
  clear hmin hp hcode hlast
  rw [hodd] at OD
  have OB := Lib.hid hodd
  clear hodd
  go_enter Tryd.func13, Tryd.ntmps13
  go_wp2_with fail
  rw [← hW1]
  clear hW1
  refine OD.out.mono ?_
  rintro e W2 ⟨rfl, hb2⟩
  clear OD
  obtain ⟨lv, Q, h0⟩ := GG.out
  have hI := h0.below (B1.out.trans (hb2.mono B1.out.size))
  obtain ⟨-, -, -, x3, -⟩ := hI.get
  obtain ⟨p, m, cap, rfl⟩ := own_form hI.row
  obtain rfl : m = g.l.length := own_len hI.row
  have B2 := Lib.hid (B1.out.trans (hb2.mono B1.out.size))
  have II := Lib.hid hI
  have G0 := Lib.hid h0
  replace z0 := below_cells hb2 z0
  replace z6 := below_cells hb2 z6
  replace z10 := below_cells hb2 z10
  replace z15 := below_cells hb2 z15
  have hl8 := OK.out.most
  have hs2 : w.heap.size < W2.heap.size := by have := hb2.size; omega
  have IX := Lib.hid (indexHear (.pointer (some ⟨w.heap.size, 0, none⟩)) (.slice p g.l.length cap) (hearP n) g.l (Q.map Qp.b) B W2 (by rw [List.length_map, hI.len]) (by omega) (by rw [← ptr_map]; exact hI.row) (fun i h1 h2 w' hb => by
    have h1' : i < Q.length := by simpa using h1
    have hq := (hI.each i h1' h2)
    obtain ⟨-, ⟨-, x6, -, -, -⟩, -, -⟩ := hq.get
    have e1 : (Q.map Qp.b)[i] = Q[i].b := by simp
    rw [e1]
    exact hear1 Q[i].b w.heap.size g.l[i].note.query n.query w' (below_cells hb x6) (below_cells hb z6)))
  clear hb2 h0 hI
  go_wp2_with fail
  refine IX.out.mono ?_
  rintro e W3 ⟨rfl, hb3⟩
  clear IX
  rw [POS.out]
  have I3 := Lib.hid (II.out.below hb3)
  have B3 := Lib.hid (B2.out.trans (hb3.mono B2.out.size))
  replace x3 := below_cells hb3 x3
  replace z10 := below_cells hb3 z10
  replace z15 := below_cells hb3 z15
  have hs3 : w.heap.size < W3.heap.size := by have := hb3.size; omega
  have hkQ : k < Q.length := by rw [I3.out.len]; exact hk
  obtain ⟨b, rfl, -, c0⟩ := row_elem I3.out.row (i := k) (by simpa using hkQ)
  have c1 : W3.cell? ⟨b, k, none⟩ = some (.pointer (some ⟨Q[k].b, 0, none⟩)) := by rw [c0]; simp [Qp.ptr]
  have QQ := Lib.hid (I3.out.each k hkQ hk)
  obtain ⟨⟨-, -, -, q3x, -⟩, -, ⟨-, -, -, -, q14⟩, ⟨-, q16, q17, q18, q19⟩⟩ := QQ.out.get
  obtain ⟨L, hM, hTo⟩ := QQ.out.told
  have hlk := run_look koInt Tryd.underlying83 hM (zeroHits W3) frm true
  have TG := Lib.hid (told_get hTo frm)
  obtain ⟨pp, pc, hpv, -, -, -, -⟩ := QQ.out.parts.slice
  rw [hpv] at q18
  have CI := Lib.hid (containsInt frm g.l[k].parts _ W3 QQ.out.parts)
  rw [hpv] at CI
  have ML := Lib.hid (And.intro hM hTo)
  have PV := Lib.hid hpv
  clear hb3 z6 z0 c0 hM hTo hpv
  have t2 : getK L frm = none := by
    rcases TG.out with ⟨-, t2⟩ | ⟨t1, -⟩
    · exact t2
    · rw [hnt] at t1; exact Bool.noConfusion t1
  rw [t2] at hlk
  simp only [if_true, Option.getD_none, Option.isSome_none] at hlk
  rw [hpt] at CI
  have NL := Lib.hid t2
  clear t2 hnt hpt TG
  have e1 : (n.code != 0) = false := by rw [HC.out]; rfl
  obtain ⟨p14, c14, hvv, -, -, -, -⟩ := QQ.out.note.read.vec.slice
  rw [hvv] at q14
  have TS := Lib.hid (told_small OK.out hk OB.out)
  have P0 := Lib.hid (show 0 < g.l[k].parts.length by have := (OK.out.each _ (List.getElem_mem hk)).2.2.1; omega)
  have PL := Lib.hid (OK.out.each _ (List.getElem_mem hk)).1
  go_wp2_with fail
  refine CI.out.mono ?_
  rintro e W4 ⟨rfl, rfl⟩
  go_wp2_with fail
  obtain ⟨W5, hW5⟩ : ∃ W5, W5 = W4.drew := ⟨_, rfl⟩
  have b5 : Below W4.heap.size W4 W5 := by rw [hW5]; exact (Below.refl _ _).drew
  have hM5 : MapAt W5 (Value.int .i64) Q[k].mb L := ML.out.1.kept (by rw [hW5]; rfl)
  replace z15 := below_cells b5 z15
  have q19c := q19
  replace q19 := below_cells b5 q19
  have I5 := Lib.hid (I3.out.below b5)
  have QQ5 := Lib.hid (QQ.out.below b5)
  have T5 := Lib.hid (ML.out.2.below b5)
  have B5 := Lib.hid (B3.out.trans (b5.mono B3.out.size))
  obtain ⟨W6, hput, hM6, hg6, hs6⟩ := run_put koInt Tryd.underlying83 hM5 frm (.slice p3 n.hits.length q3)
  have hs5 := b5.size
  have HW := Lib.hid hW5
  have M6 := Lib.hid (And.intro hM6 (And.intro hg6 hs6))
  clear hW5 hM5 hM6 hg6 hs6
  refine region_goN 7 (fun w' => w'.cell? ⟨w.heap.size, 15, none⟩ = some (.slice p3 n.hits.length q3) ∧ w'.cell? ⟨Q[k].b, 19, none⟩ = some (.map (some Q[k].mb))) (by kernel_rfl) ?hS0 (fun hH => ?_)
  case hS0 =>
    rw [← HW.out]; exact ⟨z15, q19⟩
  rw [← HW.out] at hH ⊢
  refine kYN 0 hH ?_
  repeat simp only [Act.put, uA1, uB1, uC1]
  refine kYN 1 hH ?_
  repeat simp only [Act.put, uA1, uB1, uC1]
  refine kYN 2 hH ?_
  repeat simp only [Act.put, uA1, uB1, uC1]
  refine kYN 3 hH ?_
  repeat simp only [Act.put, uA1, uB1, uC1]
  refine kYN 4 hH ?_
  repeat simp only [Act.put, uA1, uB1, uC1]
  refine kYN 5 hH ?_
  repeat simp only [Act.put, uA1, uB1, uC1]
  refine kYN 6 hH ?_
  repeat simp only [Act.put, uA1, uB1, uC1]
  refine spkL rfl (by decide +kernel) (by rfl) (fun K' hK => ?_)
  go_simp
  try dsimp only
  refine hK.out _ _ ?_
  clear hK K' hH; repeat simp only [Act.put, uA1, uB1, uC1]
  refine anyBut_done (by decide +kernel) ?_ _
  skip
  have hA6 : ∀ j, j < W5.heap.size → ¬ F j → W6.heap[j]? = W5.heap[j]? := fun j h1 h2 => M6.out.2.1.block j h1 (fun e => h2 (by rw [Option.some.inj e]; exact (I5.out.mbF Q[k] (List.getElem_mem hkQ)).1))
  have hE6 : ∀ j, E j → W6.heap[j]? = W5.heap[j]? := fun j hj => hA6 j (Nat.lt_of_lt_of_le (HE.out j hj).1 B5.out.size) (HE.out j hj).2
  have T6 := Lib.hid (((T5.out.agree (fun j hj => hA6 j (I5.out.apart j hj).1 (I5.out.apart j hj).2)).mono (G := fun j => R j ∨ E j) fun _ => .inl).snoc (p := frm) (((V.out.hits.below B5.out).agree hE6).mono fun _ => .inr))
  obtain ⟨L6, hL6⟩ : ∃ L6, L6 = L ++ [(frm, Value.slice p3 n.hits.length q3)] := ⟨_, rfl⟩
  have MP6 : MapAt W6 (Value.int .i64) Q[k].mb L6 := by rw [hL6, ← putK_none NL.out]; exact M6.out.1
  rw [← hL6] at T6
  have P6 := Lib.hid (I5.out.put hkQ hk (fun j hj => ⟨Nat.lt_of_lt_of_le (HE.out j hj).1 B5.out.size, (HE.out j hj).2⟩) M6.out.2.1 MP6 T6.out)
  have LL6 := Lib.hid (show L6.length = g.l[k].told.length + 1 by have := T6.out.1; simpa using this)
  have hbk : W6.heap[Q[k].b]? = W4.heap[Q[k].b]? := by rw [hA6 _ (I5.out.apart _ QQ5.out.own).1 (I5.out.apart _ QQ5.out.own).2, b5.block _ (I3.out.apart _ QQ.out.own).1]
  have r3 := (World.cell?_of_block (a := ⟨Q[k].b, 3, none⟩) hbk).trans q3x
  have r14 := (World.cell?_of_block (a := ⟨Q[k].b, 14, none⟩) hbk).trans q14
  have r16 := (World.cell?_of_block (a := ⟨Q[k].b, 16, none⟩) hbk).trans q16
  have r17 := (World.cell?_of_block (a := ⟨Q[k].b, 17, none⟩) hbk).trans q17
  have r18 := (World.cell?_of_block (a := ⟨Q[k].b, 18, none⟩) hbk).trans q18
  have r19 := (World.cell?_of_block (a := ⟨Q[k].b, 19, none⟩) hbk).trans q19c
  replace hbk := Lib.hid hbk
  clear hA6 hE6 hL6 hput b5
  go_wp2_with fail
  obtain ⟨W7, hW7⟩ : ∃ W7, W7 = W6.drew := ⟨_, rfl⟩
  have b7 : Below W6.heap.size W6 W7 := by rw [hW7]; exact (Below.refl _ _).drew
  have MP7 : MapAt W7 (Value.int .i64) Q[k].mb L6 := MP6.kept (by rw [hW7]; rfl)
  have hln : ∀ W, MapAt W (Value.int .i64) Q[k].mb L6 → ∀ ty, (Builtin.len_ #[83] ty #[.map (some Q[k].mb)]).run Tryd.prog W = .ok (.int .i64 L6.length) W := fun W h ty => run_len Tryd.underlying83 h ty
  replace r3 := below_cells b7 r3
  replace r14 := below_cells b7 r14
  replace r16 := below_cells b7 r16
  replace r17 := below_cells b7 r17
  replace r18 := below_cells b7 r18
  replace r19 := below_cells b7 r19
  have B7 := Lib.hid b7
  have HW7 := Lib.hid hW7
  clear hW7 b7 MP6
  refine region_go (fun w' => w'.cell? ⟨Q[k].b, 19, none⟩ = some (.map (some Q[k].mb)) ∧ w'.cell? ⟨Q[k].b, 18, none⟩ = some (.slice pp g.l[k].parts.length pc) ∧ MapAt w' (Value.int .i64) Q[k].mb L6) (by kernel_rfl) ?hS0 (fun hH => ?_)
  case hS0 =>
    rw [← HW7.out]; exact ⟨r19, r18, MP7⟩
  rw [← HW7.out] at hH ⊢
  refine kY 0 hH ?_
  repeat simp only [Act.put, uA1, uB1, uC1]
  refine kY 1 hH ?_
  repeat simp only [Act.put, uA1, uB1, uC1]
  refine kY 2 hH ?_
  repeat simp only [Act.put, uA1, uB1, uC1]
  refine kY 3 hH ?_
  repeat simp only [Act.put, uA1, uB1, uC1]
  refine kY 4 hH ?_
  repeat simp only [Act.put, uA1, uB1, uC1]
  refine kY 5 hH ?_
  repeat simp only [Act.put, uA1, uB1, uC1]
  refine kY 6 hH ?_
  repeat simp only [Act.put, uA1, uB1, uC1]
  refine kY 7 hH ?_
  repeat simp only [Act.put, uA1, uB1, uC1]
  refine kY 8 hH ?_
  repeat simp only [Act.put, uA1, uB1, uC1]
  refine kY 9 hH ?_
  repeat simp only [Act.put, uA1, uB1, uC1]
  refine kY 10 hH ?_
  repeat simp only [Act.put, uA1, uB1, uC1]
  refine wpAnyH_done (by decide +kernel) ?_ _
  clear hH
  have hge6 : ¬ L6.length < g.l[k].parts.length := by have := HM.out; have := LL6.out; omega
  have G7 := Lib.hid (And.intro (P6.out.1.below B7.out) (((Mod.of_below B5.out).trans P6.out.2 (fun _ _ h => h)).andBelow B7.out))
  have OV := Lib.hid (over B c k F (fun j => R j ∨ E j) _ _ Q W7 G7.out.1 (by simp [toldZ]; exact hk) hkQ (by simp [toldZ]; omega))
  have N7 : Hid (Nums W7 .i64 Q[k].pv g.l[k].parts ∧ LiesIn (fun j => R j ∨ E j) Q[k].pv g.l[k].parts.length ∧ (R Q[k].b ∨ E Q[k].b)) := Lib.hid (by
    have Q7 := G7.out.1.each k hkQ (by simp [toldZ]; exact hk)
    have e : (toldZ g k g.l[k] (g.l[k].told ++ [(frm, n.hits)])).l[k]'(by simp [toldZ]; exact hk) = {g.l[k] with told := g.l[k].told ++ [(frm, n.hits)]} := by simp [toldZ]
    rw [e] at Q7
    exact ⟨Q7.parts, Q7.lies, Q7.own⟩)
  have M7 := Lib.hid MP7
  clear hln MP7 r19
  go_wp2_with fail
  refine OV.out.mono ?_
  rintro e W8 ⟨rfl, ⟨lv', hG8⟩, hm8, hm8'⟩
  rw [drop_told] at hG8
  have hA := Agree.of_mod hm8 (fun j hj => (G7.out.1.apart j hj).1) (fun j hj => (G7.out.1.apart j hj).2)
  replace r3 := (hA.cell (a := ⟨Q[k].b, 3, none⟩) N7.out.2.2).trans r3
  replace r14 := (hA.cell (a := ⟨Q[k].b, 14, none⟩) N7.out.2.2).trans r14
  replace r16 := (hA.cell (a := ⟨Q[k].b, 16, none⟩) N7.out.2.2).trans r16
  replace r17 := (hA.cell (a := ⟨Q[k].b, 17, none⟩) N7.out.2.2).trans r17
  replace r18 := (hA.cell (a := ⟨Q[k].b, 18, none⟩) N7.out.2.2).trans r18
  have hk8 : W8.heap[Q[k].b]? = W7.heap[Q[k].b]? := hA _ N7.out.2.2
  have r8 : W8.cell? ⟨Q[k].b, 8, none⟩ = some (.int .i64 g.l[k].note.k) := by
    rw [World.cell?_of_block (a := ⟨Q[k].b, 8, none⟩) hk8, below_cells B7.out ((World.cell?_of_block (a := ⟨Q[k].b, 8, none⟩) hbk.out).trans QQ.out.get.2.1.2.2.2.1)]
  have r19 : W8.cell? ⟨Q[k].b, 19, none⟩ = some (.map (some Q[k].mb)) := by
    rw [World.cell?_of_block (a := ⟨Q[k].b, 19, none⟩) hk8, below_cells B7.out ((World.cell?_of_block (a := ⟨Q[k].b, 19, none⟩) hbk.out).trans QQ.out.get.2.2.2.2.2.2.2)]
  have T8 := Lib.hid ((T6.out.below B7.out).agree hA)
  obtain ⟨m1, m2, m3⟩ := G7.out.1.mbF Q[k] (List.getElem_mem hkQ)
  have M8 := Lib.hid (M7.out.kept (hm8'.block Q[k].mb (G7.out.1.low _ m1).2 (fun e => e.elim m2 m3)))
  have N8 := Lib.hid (N7.out.1.agree N7.out.2.1 hA)
  have G8 := Lib.hid (And.intro hG8 (G7.out.2.trans hm8 (fun _ _ h => h)))
  have HR8 := Lib.hid (show ∀ j, R j ∨ E j → j < W8.heap.size from fun j hj => (hG8.apart j hj).1)
  have PVW := Lib.hid (PV.out ▸ N8.out)
  clear hA hG8 hm8 hm8' hk8 m1 m2 m3 hge6
  go_wp2_with fail
  have hl9 : g.l[k].parts.length ≤ 9223372036854775807 := by have := PL.out; omega
  go_loopg [11, 91] g.l[k].parts.length (fun q out i wr => ∃ (k' : Nat) (us : List Value), q = g.l[k].parts.length - k' ∧ k' ≤ g.l[k].parts.length ∧ i = .int .i64 k' ∧ wr.ownsRow W8.heap.size 35 1 out k' us ∧ (∀ j (h1 : j < us.length) (h2 : j < g.l[k].parts.length), HitsF W8 (fun j => R j ∨ E j) us[j] (toldOf (g.l[k].told ++ [(frm, n.hits)]) g.l[k].parts[j])) ∧ Below W8.heap.size W8 wr)
  case atStart => exact ⟨0, [], rfl, by omega, rfl, World.ownsRow_nil _ _ _ _, fun j h1 => absurd h1 (by simp), Below.refl _ _⟩
  case round =>
    obtain ⟨k', us, rfl, hk', rfl, hown, hus, hb⟩ := hrel
    obtain ⟨oq, om, oc, rfl⟩ := own_form hown
    obtain rfl : om = k' := own_len hown
    have hul : us.length = om := by have := hown.1; omega
    have O := Lib.hid (And.intro hown (And.intro hus hb))
    by_cases hlt : om < g.l[k].parts.length
    · obtain ⟨bb, off, hpp, hc⟩ := (PVW.out.below hb).elem hlt
      subst hpp
      obtain ⟨uq, uc, hu1, hu2⟩ := told_look T8.out g.l[k].parts[om]
      have hlk := run_look koInt Tryd.underlying83 (M8.out.kept (hb.block _ M8.out.lt)) (zeroHits wr) g.l[k].parts[om] false
      rw [hu1] at hlk
      simp only [Bool.false_eq_true, if_false] at hlk
      have hr19 := below_cells hb r19
      obtain ⟨g5, c5, w5, hrun, hown5, hg5, hat5, hlt5⟩ := run_push rowLs hown hb.size #[.slice uq (toldOf (g.l[k].told ++ [(frm, n.hits)]) g.l[k].parts[om]).length uc] rfl (by simp [Value.oneCell']) (by simp [maxLen]; omega) (by have := PL.out; omega)
      have ST := Lib.hid (And.intro hown5 (And.intro (show ∀ j (h1 : j < (us ++ [Value.slice uq (toldOf (g.l[k].told ++ [(frm, n.hits)]) g.l[k].parts[om]).length uc]).length) (h2 : j < g.l[k].parts.length), HitsF W8 (fun j => R j ∨ E j) (us ++ [Value.slice uq (toldOf (g.l[k].told ++ [(frm, n.hits)]) g.l[k].parts[om]).length uc])[j] (toldOf (g.l[k].told ++ [(frm, n.hits)]) g.l[k].parts[j]) from fun j h1 h2 => by
        rcases Nat.lt_or_ge j us.length with h3 | h3
        · rw [List.getElem_append_left h3]; exact hus j h3 h2
        · have e : j = om := by simp at h1; omega
          subst e
          rw [List.getElem_append_right h3]
          simpa using hu2) ((hb.alloc hb.size _).grown hg5 (by have := hb.size; simp; omega) (fun b e => (hown.lt b e).1))))
      clear hown hus hb hu1 hu2 hown5 hg5 hat5 hlt5
      go_wp2_with (with_reducible refine wpList_append_eq hrun rfl _ _ rfl rfl rfl ?_)
      go_roundg (g.l[k].parts.length - (om + 1))
      case measure => omega
      case rel => exact ⟨om + 1, _, rfl, by omega, by go_num, ST.out.1, ST.out.2.1, ST.out.2.2⟩
    · obtain rfl : om = g.l[k].parts.length := by omega
      have LF := Lib.hid (ListsF.of_own (w := W8) (F := fun j => R j ∨ E j) (G := fun j => (R j ∨ E j) ∨ (W8.heap.size ≤ j ∧ j < wr.heap.size)) (ls := g.l[k].parts.map (toldOf (g.l[k].told ++ [(frm, n.hits)]))) hown (by rw [hul, List.length_map]) (fun b e => .inr (hown.lt b e)) (fun _ => .inl) hb (fun i h1 h2 => by
        have h3 : i < g.l[k].parts.length := by simpa using h2
        have := hus i h1 h3
        simpa using this))
      replace r3 := below_cells hb r3
      replace r14 := below_cells hb r14
      replace r16 := below_cells hb r16
      replace r17 := below_cells hb r17
      replace r8 := below_cells hb r8
      have B9 := Lib.hid hb
      have hs9 := hb.size
      clear hown hus hb hul O
      have AN := Lib.hid (show answerZ g.l[k] (g.l[k].told ++ [(frm, n.hits)]) = toldOf (g.l[k].told ++ [(frm, n.hits)]) g.l[k].parts[0] by
        unfold answerZ
        rw [if_pos V0.out]
        congr 1
        rw [List.headD_eq_head?_getD, List.head?_eq_getElem?, List.getElem?_eq_getElem P0.out]
        rfl)
      have e5 : ((g.l[k].note.vec.length : Int) == 0) = true := by rw [V0.out]; rfl
      obtain ⟨lb, lo, lq, lc, rfl, lcell, lhit⟩ := LF.out.elem (i := 0) (by rw [List.length_map]; exact P0.out)
      rw [List.getElem_map] at lcell lhit
      rw [Nat.add_zero] at lcell
      have HG9 := Lib.hid (show ∀ j, (R j ∨ E j) ∨ (W8.heap.size ≤ j ∧ j < wr.heap.size) → j < wr.heap.size from fun j hj => hj.elim (fun h => Nat.lt_of_lt_of_le (HR8.out j h) hs9) (fun h => h.2))
      have RS := Lib.hid (result Q[k].b g.l[k].who g.l[k].note.stamp g.l[k].query 0 _ _ _ wr r3 r16 r17 lhit HG9.out)
      clear lhit
      go_wp2_with fail
      refine RS.out.mono ?_
      intro e w6 hN
      have FIN := Lib.hid (GTold.after (E := E) ⟨_, _, G8.out.1.below B9.out⟩ (G8.out.2.andBelow B9.out) (fun _ h => .inl h) (fun _ h => h.imp id .inl) HG9.out hN)
      obtain ⟨v3, rs3, G3, rfl, -⟩ := hN
      go_wp2_with fail
      go_ret
      rw [AZ.out, AN.out]
      exact FIN.out

set_option maxHeartbeats 4000000 in
theorem hearBest
    (B c : Nat) (F R E : Nat → Prop) (g : Gz) (n : Nt) (vp vo vv vh : Value) (frm : Int) (w : World) (hT : Tab w) (hG : GAt w B c F R g) (hB : B ≤ w.heap.size) (hok : GOk g) (hv : NoteV w E n vp vo vv vh) (hkd : 0 ≤ n.kind ∧ n.kind ≤ 255) (hlen : n.parts.length ≤ 1000000 ∧ n.ops.length ≤ 1000000 ∧ n.vec.length ≤ 1000000 ∧ n.hits.length ≤ 1000000) (hE : ∀ k, E k → k < w.heap.size ∧ ¬ F k)
    (hodd : oddB frm n 10 = false) (k : Nat) (hk : k < g.l.length) (hp : hearP n g.l[k] = true) (hmin : ∀ j (h : j < g.l.length), j < k → hearP n g.l[j] = false) (hnt : hasTold g.l[k].told frm = false) (hpt : (g.l[k].parts.any fun y => decide (frm = y)) = true)
    (hcode : n.code = 0) (hlast : ¬ g.l[k].told.length + 1 < g.l[k].parts.length)
    (hv0 : 0 < g.l[k].note.vec.length) :
    Calls Tryd.prog 13 #[.pointer (some ⟨c, 0, none⟩), .int .i64 frm, .agg (n.cells vp vo vv vh)] w (GTold w B c F R E (hearZ g frm n).1 (hearZ g frm n).2) := by
  obtain ⟨p0, q0, rfl, -, -, -, -⟩ := hv.parts.slice
  obtain ⟨p1, q1, rfl, -, -, -, -⟩ := id hv.ops
  obtain ⟨p2, q2, rfl, -, -, -, -⟩ := hv.vec.slice
  obtain ⟨p3, q3, rfl, -, -, -, -⟩ := id hv.hits
  obtain ⟨W1, hW1⟩ : ∃ W1, W1 = w.alloc (.cells (n.cells (.slice p0 n.parts.length q0) (.slice p1 n.ops.length q1) (.slice p2 n.vec.length q2) (.slice p3 n.hits.length q3)) 37) := ⟨_, rfl⟩
  have hB1 : Below w.heap.size w W1 := by rw [hW1]; exact (Below.refl _ _).alloc (Nat.le_refl _) _
  have y0 : W1.heap[w.heap.size]? = some (.cells (n.cells (.slice p0 n.parts.length q0) (.slice p1 n.ops.length q1) (.slice p2 n.vec.length q2) (.slice p3 n.hits.length q3)) 37 (0, 0)) := by rw [hW1]; exact heap_alloc_new _ _
  have hs1 : w.heap.size < W1.heap.size := by rw [hW1]; simp
  have OD := Lib.hid (odd frm 10 n E _ _ _ _ W1 (hT.below hB1) (hv.below hB1) hkd hlen)
  have B1 := Lib.hid hB1
  have V := Lib.hid hv
  have GG := Lib.hid hG
  have OK := Lib.hid hok
  have HR := Lib.hid (show ∀ k, R k → k < w.heap.size from by obtain ⟨lv, Q, hI⟩ := hG; exact fun k hk => (hI.apart k hk).1)
  have HBB := Lib.hid hB
  have HE := Lib.hid hE
  obtain ⟨⟨z0, -, -, -, -⟩, ⟨-, z6, -, -, -⟩, ⟨z10, -, -, -, -⟩, z15⟩ := note_get y0
  clear hT hv hkd hlen hB1 y0 hG hok hB hE
  unfold Nt.cells at *
  have V0 := Lib.hid hv0
  clear hv0
  have AZ := Lib.hid (show hearZ g frm n = ([(g.l[k].who, resN g.l[k].note.stamp g.l[k].query 0 (answerZ g.l[k] (g.l[k].told ++ [(frm, n.hits)])))], dropZ g k) by rw [hearZ_at hodd hk hp hmin]; unfold hearAt; rw [hnt, hpt, if_neg (by simp), if_neg (by simpa using hcode), if_neg hlast])
  have POS := Lib.hid (posG_at hk hmin hp)
  have HC := Lib.hid hcode
  have HM := Lib.hid hlast
  clear hmin hp hcode hlast
  rw [hodd] at OD
  have OB := Lib.hid hodd
  clear hodd
  go_enter Tryd.func13, Tryd.ntmps13
  go_wp2_with fail
  rw [← hW1]
  clear hW1
  refine OD.out.mono ?_
  rintro e W2 ⟨rfl, hb2⟩
  clear OD
  obtain ⟨lv, Q, h0⟩ := GG.out
  have hI := h0.below (B1.out.trans (hb2.mono B1.out.size))
  obtain ⟨-, -, -, x3, -⟩ := hI.get
  obtain ⟨p, m, cap, rfl⟩ := own_form hI.row
  obtain rfl : m = g.l.length := own_len hI.row
  have B2 := Lib.hid (B1.out.trans (hb2.mono B1.out.size))
  have II := Lib.hid hI
  have G0 := Lib.hid h0
  replace z0 := below_cells hb2 z0
  replace z6 := below_cells hb2 z6
  replace z10 := below_cells hb2 z10
  replace z15 := below_cells hb2 z15
  have hl8 := OK.out.most
  have hs2 : w.heap.size < W2.heap.size := by have := hb2.size; omega
  have IX := Lib.hid (indexHear (.pointer (some ⟨w.heap.size, 0, none⟩)) (.slice p g.l.length cap) (hearP n) g.l (Q.map Qp.b) B W2 (by rw [List.length_map, hI.len]) (by omega) (by rw [← ptr_map]; exact hI.row) (fun i h1 h2 w' hb => by
    have h1' : i < Q.length := by simpa using h1
    have hq := (hI.each i h1' h2)
    obtain ⟨-, ⟨-, x6, -, -, -⟩, -, -⟩ := hq.get
    have e1 : (Q.map Qp.b)[i] = Q[i].b := by simp
    rw [e1]
    exact hear1 Q[i].b w.heap.size g.l[i].note.query n.query w' (below_cells hb x6) (below_cells hb z6)))
  clear hb2 h0 hI
  go_wp2_with fail
  refine IX.out.mono ?_
  rintro e W3 ⟨rfl, hb3⟩
  clear IX
  rw [POS.out]
  have I3 := Lib.hid (II.out.below hb3)
  have B3 := Lib.hid (B2.out.trans (hb3.mono B2.out.size))
  replace x3 := below_cells hb3 x3
  replace z10 := below_cells hb3 z10
  replace z15 := below_cells hb3 z15
  have hs3 : w.heap.size < W3.heap.size := by have := hb3.size; omega
  have hkQ : k < Q.length := by rw [I3.out.len]; exact hk
  obtain ⟨b, rfl, -, c0⟩ := row_elem I3.out.row (i := k) (by simpa using hkQ)
  have c1 : W3.cell? ⟨b, k, none⟩ = some (.pointer (some ⟨Q[k].b, 0, none⟩)) := by rw [c0]; simp [Qp.ptr]
  have QQ := Lib.hid (I3.out.each k hkQ hk)
  obtain ⟨⟨-, -, -, q3x, -⟩, -, ⟨-, -, -, -, q14⟩, ⟨-, q16, q17, q18, q19⟩⟩ := QQ.out.get
  obtain ⟨L, hM, hTo⟩ := QQ.out.told
  have hlk := run_look koInt Tryd.underlying83 hM (zeroHits W3) frm true
  have TG := Lib.hid (told_get hTo frm)
  obtain ⟨pp, pc, hpv, -, -, -, -⟩ := QQ.out.parts.slice
  rw [hpv] at q18
  have CI := Lib.hid (containsInt frm g.l[k].parts _ W3 QQ.out.parts)
  rw [hpv] at CI
  have ML := Lib.hid (And.intro hM hTo)
  have PV := Lib.hid hpv
  clear hb3 z6 z0 c0 hM hTo hpv
  have t2 : getK L frm = none := by
    rcases TG.out with ⟨-, t2⟩ | ⟨t1, -⟩
    · exact t2
    · rw [hnt] at t1; exact Bool.noConfusion t1
  rw [t2] at hlk
  simp only [if_true, Option.getD_none, Option.isSome_none] at hlk
  rw [hpt] at CI
  have NL := Lib.hid t2
  clear t2 hnt hpt TG
  have e1 : (n.code != 0) = false := by rw [HC.out]; rfl
  obtain ⟨p14, c14, hvv, -, -, -, -⟩ := QQ.out.note.read.vec.slice
  rw [hvv] at q14
  have TS := Lib.hid (told_small OK.out hk OB.out)
  have P0 := Lib.hid (show 0 < g.l[k].parts.length by have := (OK.out.each _ (List.getElem_mem hk)).2.2.1; omega)
  have PL := Lib.hid (OK.out.each _ (List.getElem_mem hk)).1
  go_wp2_with fail
  refine CI.out.mono ?_
  rintro e W4 ⟨rfl, rfl⟩
  go_wp2_with fail
  obtain ⟨W5, hW5⟩ : ∃ W5, W5 = W4.drew := ⟨_, rfl⟩
  have b5 : Below W4.heap.size W4 W5 := by rw [hW5]; exact (Below.refl _ _).drew
  have hM5 : MapAt W5 (Value.int .i64) Q[k].mb L := ML.out.1.kept (by rw [hW5]; rfl)
  replace z15 := below_cells b5 z15
  have q19c := q19
  replace q19 := below_cells b5 q19
  have I5 := Lib.hid (I3.out.below b5)
  have QQ5 := Lib.hid (QQ.out.below b5)
  have T5 := Lib.hid (ML.out.2.below b5)
  have B5 := Lib.hid (B3.out.trans (b5.mono B3.out.size))
  obtain ⟨W6, hput, hM6, hg6, hs6⟩ := run_put koInt Tryd.underlying83 hM5 frm (.slice p3 n.hits.length q3)
  have hs5 := b5.size
  have HW := Lib.hid hW5
  have M6 := Lib.hid (And.intro hM6 (And.intro hg6 hs6))
  clear hW5 hM5 hM6 hg6 hs6
  refine region_goN 7 (fun w' => w'.cell? ⟨w.heap.size, 15, none⟩ = some (.slice p3 n.hits.length q3) ∧ w'.cell? ⟨Q[k].b, 19, none⟩ = some (.map (some Q[k].mb))) (by kernel_rfl) ?hS0 (fun hH => ?_)
  case hS0 =>
    rw [← HW.out]; exact ⟨z15, q19⟩
  rw [← HW.out] at hH ⊢
  refine kYN 0 hH ?_
  repeat simp only [Act.put, uA1, uB1, uC1]
  refine kYN 1 hH ?_
  repeat simp only [Act.put, uA1, uB1, uC1]
  refine kYN 2 hH ?_
  repeat simp only [Act.put, uA1, uB1, uC1]
  refine kYN 3 hH ?_
  repeat simp only [Act.put, uA1, uB1, uC1]
  refine kYN 4 hH ?_
  repeat simp only [Act.put, uA1, uB1, uC1]
  refine kYN 5 hH ?_
  repeat simp only [Act.put, uA1, uB1, uC1]
  refine kYN 6 hH ?_
  repeat simp only [Act.put, uA1, uB1, uC1]
  refine spkL rfl (by decide +kernel) (by rfl) (fun K' hK => ?_)
  go_simp
  try dsimp only
  refine hK.out _ _ ?_
  clear hK K' hH; repeat simp only [Act.put, uA1, uB1, uC1]
  refine anyBut_done (by decide +kernel) ?_ _
  skip
  have hA6 : ∀ j, j < W5.heap.size → ¬ F j → W6.heap[j]? = W5.heap[j]? := fun j h1 h2 => M6.out.2.1.block j h1 (fun e => h2 (by rw [Option.some.inj e]; exact (I5.out.mbF Q[k] (List.getElem_mem hkQ)).1))
  have hE6 : ∀ j, E j → W6.heap[j]? = W5.heap[j]? := fun j hj => hA6 j (Nat.lt_of_lt_of_le (HE.out j hj).1 B5.out.size) (HE.out j hj).2
  have T6 := Lib.hid (((T5.out.agree (fun j hj => hA6 j (I5.out.apart j hj).1 (I5.out.apart j hj).2)).mono (G := fun j => R j ∨ E j) fun _ => .inl).snoc (p := frm) (((V.out.hits.below B5.out).agree hE6).mono fun _ => .inr))
  obtain ⟨L6, hL6⟩ : ∃ L6, L6 = L ++ [(frm, Value.slice p3 n.hits.length q3)] := ⟨_, rfl⟩
  have MP6 : MapAt W6 (Value.int .i64) Q[k].mb L6 := by rw [hL6, ← putK_none NL.out]; exact M6.out.1
  rw [← hL6] at T6
  have P6 := Lib.hid (I5.out.put hkQ hk (fun j hj => ⟨Nat.lt_of_lt_of_le (HE.out j hj).1 B5.out.size, (HE.out j hj).2⟩) M6.out.2.1 MP6 T6.out)
  have LL6 := Lib.hid (show L6.length = g.l[k].told.length + 1 by have := T6.out.1; simpa using this)
  have hbk : W6.heap[Q[k].b]? = W4.heap[Q[k].b]? := by rw [hA6 _ (I5.out.apart _ QQ5.out.own).1 (I5.out.apart _ QQ5.out.own).2, b5.block _ (I3.out.apart _ QQ.out.own).1]
  have r3 := (World.cell?_of_block (a := ⟨Q[k].b, 3, none⟩) hbk).trans q3x
  have r14 := (World.cell?_of_block (a := ⟨Q[k].b, 14, none⟩) hbk).trans q14
  have r16 := (World.cell?_of_block (a := ⟨Q[k].b, 16, none⟩) hbk).trans q16
  have r17 := (World.cell?_of_block (a := ⟨Q[k].b, 17, none⟩) hbk).trans q17
  have r18 := (World.cell?_of_block (a := ⟨Q[k].b, 18, none⟩) hbk).trans q18
  have r19 := (World.cell?_of_block (a := ⟨Q[k].b, 19, none⟩) hbk).trans q19c
  replace hbk := Lib.hid hbk
  clear hA6 hE6 hL6 hput b5
  go_wp2_with fail
  obtain ⟨W7, hW7⟩ : ∃ W7, W7 = W6.drew := ⟨_, rfl⟩
  have b7 : Below W6.heap.size W6 W7 := by rw [hW7]; exact (Below.refl _ _).drew
  have MP7 : MapAt W7 (Value.int .i64) Q[k].mb L6 := MP6.kept (by rw [hW7]; rfl)
  have hln : ∀ W, MapAt W (Value.int .i64) Q[k].mb L6 → ∀ ty, (Builtin.len_ #[83] ty #[.map (some Q[k].mb)]).run Tryd.prog W = .ok (.int .i64 L6.length) W := fun W h ty => run_len Tryd.underlying83 h ty
  replace r3 := below_cells b7 r3
  replace r14 := below_cells b7 r14
  replace r16 := below_cells b7 r16
  replace r17 := below_cells b7 r17
  replace r18 := below_cells b7 r18
  replace r19 := below_cells b7 r19
  have B7 := Lib.hid b7
  have HW7 := Lib.hid hW7
  clear hW7 b7 MP6
  refine region_go (fun w' => w'.cell? ⟨Q[k].b, 19, none⟩ = some (.map (some Q[k].mb)) ∧ w'.cell? ⟨Q[k].b, 18, none⟩ = some (.slice pp g.l[k].parts.length pc) ∧ MapAt w' (Value.int .i64) Q[k].mb L6) (by kernel_rfl) ?hS0 (fun hH => ?_)
  case hS0 =>
    rw [← HW7.out]; exact ⟨r19, r18, MP7⟩
  rw [← HW7.out] at hH ⊢
  refine kY 0 hH ?_
  repeat simp only [Act.put, uA1, uB1, uC1]
  refine kY 1 hH ?_
  repeat simp only [Act.put, uA1, uB1, uC1]
  refine kY 2 hH ?_
  repeat simp only [Act.put, uA1, uB1, uC1]
  refine kY 3 hH ?_
  repeat simp only [Act.put, uA1, uB1, uC1]
  refine kY 4 hH ?_
  repeat simp only [Act.put, uA1, uB1, uC1]
  refine kY 5 hH ?_
  repeat simp only [Act.put, uA1, uB1, uC1]
  refine kY 6 hH ?_
  repeat simp only [Act.put, uA1, uB1, uC1]
  refine kY 7 hH ?_
  repeat simp only [Act.put, uA1, uB1, uC1]
  refine kY 8 hH ?_
  repeat simp only [Act.put, uA1, uB1, uC1]
  refine kY 9 hH ?_
  repeat simp only [Act.put, uA1, uB1, uC1]
  refine kY 10 hH ?_
  repeat simp only [Act.put, uA1, uB1, uC1]
  refine wpAnyH_done (by decide +kernel) ?_ _
  clear hH
  have hge6 : ¬ L6.length < g.l[k].parts.length := by have := HM.out; have := LL6.out; omega
  have G7 := Lib.hid (And.intro (P6.out.1.below B7.out) (((Mod.of_below B5.out).trans P6.out.2 (fun _ _ h => h)).andBelow B7.out))
  have OV := Lib.hid (over B c k F (fun j => R j ∨ E j) _ _ Q W7 G7.out.1 (by simp [toldZ]; exact hk) hkQ (by simp [toldZ]; omega))
  have N7 : Hid (Nums W7 .i64 Q[k].pv g.l[k].parts ∧ LiesIn (fun j => R j ∨ E j) Q[k].pv g.l[k].parts.length ∧ (R Q[k].b ∨ E Q[k].b)) := Lib.hid (by
    have Q7 := G7.out.1.each k hkQ (by simp [toldZ]; exact hk)
    have e : (toldZ g k g.l[k] (g.l[k].told ++ [(frm, n.hits)])).l[k]'(by simp [toldZ]; exact hk) = {g.l[k] with told := g.l[k].told ++ [(frm, n.hits)]} := by simp [toldZ]
    rw [e] at Q7
    exact ⟨Q7.parts, Q7.lies, Q7.own⟩)
  have M7 := Lib.hid MP7
  clear hln MP7 r19
  go_wp2_with fail
  refine OV.out.mono ?_
  rintro e W8 ⟨rfl, ⟨lv', hG8⟩, hm8, hm8'⟩
  rw [drop_told] at hG8
  have hA := Agree.of_mod hm8 (fun j hj => (G7.out.1.apart j hj).1) (fun j hj => (G7.out.1.apart j hj).2)
  replace r3 := (hA.cell (a := ⟨Q[k].b, 3, none⟩) N7.out.2.2).trans r3
  replace r14 := (hA.cell (a := ⟨Q[k].b, 14, none⟩) N7.out.2.2).trans r14
  replace r16 := (hA.cell (a := ⟨Q[k].b, 16, none⟩) N7.out.2.2).trans r16
  replace r17 := (hA.cell (a := ⟨Q[k].b, 17, none⟩) N7.out.2.2).trans r17
  replace r18 := (hA.cell (a := ⟨Q[k].b, 18, none⟩) N7.out.2.2).trans r18
  have hk8 : W8.heap[Q[k].b]? = W7.heap[Q[k].b]? := hA _ N7.out.2.2
  have r8 : W8.cell? ⟨Q[k].b, 8, none⟩ = some (.int .i64 g.l[k].note.k) := by
    rw [World.cell?_of_block (a := ⟨Q[k].b, 8, none⟩) hk8, below_cells B7.out ((World.cell?_of_block (a := ⟨Q[k].b, 8, none⟩) hbk.out).trans QQ.out.get.2.1.2.2.2.1)]
  have r19 : W8.cell? ⟨Q[k].b, 19, none⟩ = some (.map (some Q[k].mb)) := by
    rw [World.cell?_of_block (a := ⟨Q[k].b, 19, none⟩) hk8, below_cells B7.out ((World.cell?_of_block (a := ⟨Q[k].b, 19, none⟩) hbk.out).trans QQ.out.get.2.2.2.2.2.2.2)]
  have T8 := Lib.hid ((T6.out.below B7.out).agree hA)
  obtain ⟨m1, m2, m3⟩ := G7.out.1.mbF Q[k] (List.getElem_mem hkQ)
  have M8 := Lib.hid (M7.out.kept (hm8'.block Q[k].mb (G7.out.1.low _ m1).2 (fun e => e.elim m2 m3)))
  have N8 := Lib.hid (N7.out.1.agree N7.out.2.1 hA)
  have G8 := Lib.hid (And.intro hG8 (G7.out.2.trans hm8 (fun _ _ h => h)))
  have HR8 := Lib.hid (show ∀ j, R j ∨ E j → j < W8.heap.size from fun j hj => (hG8.apart j hj).1)
  have PVW := Lib.hid (PV.out ▸ N8.out)
  clear hA hG8 hm8 hm8' hk8 m1 m2 m3 hge6
  go_wp2_with fail
  have hl9 : g.l[k].parts.length ≤ 9223372036854775807 := by have := PL.out; omega
  go_loopg [11, 91] g.l[k].parts.length (fun q out i wr => ∃ (k' : Nat) (us : List Value), q = g.l[k].parts.length - k' ∧ k' ≤ g.l[k].parts.length ∧ i = .int .i64 k' ∧ wr.ownsRow W8.heap.size 35 1 out k' us ∧ (∀ j (h1 : j < us.length) (h2 : j < g.l[k].parts.length), HitsF W8 (fun j => R j ∨ E j) us[j] (toldOf (g.l[k].told ++ [(frm, n.hits)]) g.l[k].parts[j])) ∧ Below W8.heap.size W8 wr)
  case atStart => exact ⟨0, [], rfl, by omega, rfl, World.ownsRow_nil _ _ _ _, fun j h1 => absurd h1 (by simp), Below.refl _ _⟩
  case round =>
    obtain ⟨k', us, rfl, hk', rfl, hown, hus, hb⟩ := hrel
    obtain ⟨oq, om, oc, rfl⟩ := own_form hown
    obtain rfl : om = k' := own_len hown
    have hul : us.length = om := by have := hown.1; omega
    have O := Lib.hid (And.intro hown (And.intro hus hb))
    by_cases hlt : om < g.l[k].parts.length
    · obtain ⟨bb, off, hpp, hc⟩ := (PVW.out.below hb).elem hlt
      subst hpp
      obtain ⟨uq, uc, hu1, hu2⟩ := told_look T8.out g.l[k].parts[om]
      have hlk := run_look koInt Tryd.underlying83 (M8.out.kept (hb.block _ M8.out.lt)) (zeroHits wr) g.l[k].parts[om] false
      rw [hu1] at hlk
      simp only [Bool.false_eq_true, if_false] at hlk
      have hr19 := below_cells hb r19
      obtain ⟨g5, c5, w5, hrun, hown5, hg5, hat5, hlt5⟩ := run_push rowLs hown hb.size #[.slice uq (toldOf (g.l[k].told ++ [(frm, n.hits)]) g.l[k].parts[om]).length uc] rfl (by simp [Value.oneCell']) (by simp [maxLen]; omega) (by have := PL.out; omega)
      have ST := Lib.hid (And.intro hown5 (And.intro (show ∀ j (h1 : j < (us ++ [Value.slice uq (toldOf (g.l[k].told ++ [(frm, n.hits)]) g.l[k].parts[om]).length uc]).length) (h2 : j < g.l[k].parts.length), HitsF W8 (fun j => R j ∨ E j) (us ++ [Value.slice uq (toldOf (g.l[k].told ++ [(frm, n.hits)]) g.l[k].parts[om]).length uc])[j] (toldOf (g.l[k].told ++ [(frm, n.hits)]) g.l[k].parts[j]) from fun j h1 h2 => by
        rcases Nat.lt_or_ge j us.length with h3 | h3
        · rw [List.getElem_append_left h3]; exact hus j h3 h2
        · have e : j = om := by simp at h1; omega
          subst e
          rw [List.getElem_append_right h3]
          simpa using hu2) ((hb.alloc hb.size _).grown hg5 (by have := hb.size; simp; omega) (fun b e => (hown.lt b e).1))))
      clear hown hus hb hu1 hu2 hown5 hg5 hat5 hlt5
      go_wp2_with (with_reducible refine wpList_append_eq hrun rfl _ _ rfl rfl rfl ?_)
      go_roundg (g.l[k].parts.length - (om + 1))
      case measure => omega
      case rel => exact ⟨om + 1, _, rfl, by omega, by go_num, ST.out.1, ST.out.2.1, ST.out.2.2⟩
    · obtain rfl : om = g.l[k].parts.length := by omega
      have LF := Lib.hid (ListsF.of_own (w := W8) (F := fun j => R j ∨ E j) (G := fun j => (R j ∨ E j) ∨ (W8.heap.size ≤ j ∧ j < wr.heap.size)) (ls := g.l[k].parts.map (toldOf (g.l[k].told ++ [(frm, n.hits)]))) hown (by rw [hul, List.length_map]) (fun b e => .inr (hown.lt b e)) (fun _ => .inl) hb (fun i h1 h2 => by
        have h3 : i < g.l[k].parts.length := by simpa using h2
        have := hus i h1 h3
        simpa using this))
      replace r3 := below_cells hb r3
      replace r14 := below_cells hb r14
      replace r16 := below_cells hb r16
      replace r17 := below_cells hb r17
      replace r8 := below_cells hb r8
      have B9 := Lib.hid hb
      have hs9 := hb.size
      clear hown hus hb hul O
      have HG9 := Lib.hid (show ∀ j, (R j ∨ E j) ∨ (W8.heap.size ≤ j ∧ j < wr.heap.size) → j < wr.heap.size from fun j hj => hj.elim (fun h => Nat.lt_of_lt_of_le (HR8.out j h) hs9) (fun h => h.2))
      have e5 : ((g.l[k].note.vec.length : Int) == 0) = false := beq_eq_false_iff_ne.2 (by have := V0.out; omega)
      obtain ⟨mm, hmm⟩ : ∃ mm, mm = answerZ g.l[k] (g.l[k].told ++ [(frm, n.hits)]) := ⟨_, rfl⟩
      have MG : Hid (Calls Tryd.prog 41 #[.int .i64 g.l[k].note.k, .slice oq g.l[k].parts.length oc] wr (FreshHits wr mm)) := Lib.hid (by
        obtain ⟨-, -, -, hk0, hk16, -⟩ := OK.out.each _ (List.getElem_mem hk)
        rw [hmm]
        unfold answerZ
        rw [if_neg (show ¬ g.l[k].note.vec.length = 0 by have := V0.out; omega)]
        by_cases h1 : g.l[k].note.k < 1
        · rw [if_pos h1]
          exact merge_no _ h1 _ _ _ _ LF.out
        · rw [if_neg h1]
          have := merge g.l[k].note.k.toNat (by omega) (by omega) _ _ _ wr LF.out HG9.out (fun ms hms => by
            obtain ⟨p, -, rfl⟩ := List.mem_map.1 hms
            exact TS.out p)
          rw [Int.toNat_of_nonneg hk0] at this
          exact this)
      have AN := Lib.hid hmm.symm
      clear hmm
      go_wp2_with fail
      refine MG.out.mono ?_
      rintro e w7 ⟨v7, rfl, hh7, hb7⟩
      obtain ⟨q7, c7, rfl, -⟩ := id hh7
      have RS := Lib.hid (result Q[k].b g.l[k].who g.l[k].note.stamp g.l[k].query 0 _ _ _ w7 (below_cells hb7 r3) (below_cells hb7 r16) (below_cells hb7 r17) hh7 (fun _ h => h.2))
      have B79 := Lib.hid hb7
      clear hh7 hb7
      go_wp2_with fail
      refine RS.out.mono ?_
      intro e w6 hN
      have FIN := Lib.hid (GTold.after (E := E) ⟨_, _, (G8.out.1.below B9.out).below B79.out⟩ ((G8.out.2.andBelow B9.out).andBelow B79.out) (fun _ h => .inl h) (fun _ h => h.imp id .inl) (fun _ h => h.2) hN)
      obtain ⟨v3, rs3, G3, rfl, -⟩ := hN
      go_wp2_with fail
      go_ret
      rw [AZ.out, AN.out]
      exact FIN.out

end Go.Proofs.YtfmlhdikagogcaaDoor
