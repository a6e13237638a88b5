/-
  gather: what is left once a question has been put to the row.
  gather: Hear: one could not.
  gather: Hear: a part has told, not the last one.
  best.Merge of no number of hits.
  gather: Hear: the lists of what was told.
-/
import Derived.Test.YtfmlhdikagogcaaDoorJ22
import Derived.Test.YtfmlhdikagogcaaDoorJ36
import Derived.Test.YtfmlhdikagogcaaDoorJ38
import Derived.Test.YtfmlhdikagogcaaDoorJ32
namespace Go.Proofs.YtfmlhdikagogcaaDoor
open Go.RowKit
set_option maxRecDepth 20000

/-- the gather has been changed, then mail was told -/
theorem GTold.after {w w1 w' : World} {B c : Nat} {F R E F' R' RR : Nat → Prop} {g' : Gz} {l : List (Int × Nt)} {r : Ending} (hG : GAt w1 B c F' R' g') (hm : Mod F w w1) (hF' : ∀ k, F' k → F k ∨ w.heap.size ≤ k) (hR' : ∀ k, R' k → R k ∨ E k ∨ w.heap.size ≤ k)
    (hRR : ∀ k, RR k → k < w1.heap.size) (h : NewMails w1 44 RR l r w') : GTold w B c F R E l g' r w' := by
  obtain ⟨v, rs, G, rfl, ho, hs, hm', hG', hb'⟩ := h
  refine ⟨v, rs, G, F', R', rfl, own_mono ho hm.size, hs, hm', fun k hk => ⟨(hG' k hk).1, (hG' k hk).2.1⟩, fun k hk hF => ?_, hG.below hb', hm.andBelow hb', hF', hR'⟩
  obtain ⟨lv, Q, hI⟩ := hG
  have h1 := (hI.low k hF).2
  have h2 := (ho.lt k hk).1
  omega

/-- what a new question's blocks are -/
def newR (lo hi mb : Nat) (k : Nat) : Prop := lo ≤ k ∧ k < hi ∧ k ≠ mb

theorem GIn.asked {w W13 W14 W15 : World} {B c g1 c1 : Nat} {F R : Nat → Prop} {g : Gz} {lv : Value} {Q : List Qp} {q : Qs} {x : Qp} {last : Int} {o : Obj} (h : GIn w B c F R g lv Q) (hB : B ≤ w.heap.size) (hM : Mod (fun k => k = c) w W13)
    (hc : W13.heap[c]? = some (.cells #[.int .i64 g.shards, .int .i64 g.dim, .int .u64 last, lv] 80 (0, 0)))
    (hq : QAt W13 (newR w.heap.size W13.heap.size x.mb) x.b x.mb q x.vp x.vo x.vv x.vh x.pv) (hmb : w.heap.size ≤ x.mb ∧ x.mb < W13.heap.size)
    (ho : W14.ownsRow B 82 1 (.slice (some ⟨g1, 0, none⟩) (g.l.length + 1) c1) (g.l.length + 1) (Q.map Qp.ptr ++ [x.ptr])) (hg : (W13.alloc o).grownBy W14 lv.ownBlock) (hgg : lv.ownBlock = some g1 ∨ g1 = W13.heap.size + 1) (hlt : g1 < W14.heap.size)
    (hW : W15 = W14.setCell ⟨c, 3, none⟩ (.slice (some ⟨g1, 0, none⟩) (g.l.length + 1) c1)) :
    (∃ F' R' : Nat → Prop, GAt W15 B c F' R' {g with last := last, l := g.l ++ [q]} ∧ (∀ k, F' k → F k ∨ w.heap.size ≤ k) ∧ (∀ k, R' k → R k ∨ w.heap.size ≤ k)) ∧ Mod F w W15 ∧ (∀ k, newR w.heap.size W13.heap.size x.mb k → k < W15.heap.size) ∧ QAt W15 (newR w.heap.size W13.heap.size x.mb) x.b x.mb q x.vp x.vo x.vv x.vh x.pv := by
  have hcl := (h.low c h.here).2
  have hs13 := hM.size
  have hs14 := hg.size
  rw [World.size_alloc] at hs14
  have hlvl : ∀ k, lv.ownBlock = some k → k < w.heap.size ∧ k ≠ c := fun k hk => ⟨(h.low k (h.lvF k hk).1).2, (h.lvF k hk).2⟩
  have hk14 : ∀ k, k < W13.heap.size → lv.ownBlock ≠ some k → W14.heap[k]? = W13.heap[k]? := fun k hk hne => by
    rw [hg.block k (by rw [World.size_alloc]; omega) (fun e => hne e.symm)]; exact Below.heap_alloc W13 o k hk
  have hsz : W15.heap.size = W14.heap.size := by rw [hW]; simp [World.setCell]
  have hk15 : ∀ k, k < W13.heap.size → lv.ownBlock ≠ some k → k ≠ c → W15.heap[k]? = W13.heap[k]? := fun k hk hne hkc => by
    rw [hW, Below.heap_setCell _ _ _ _ (fun e => hkc e)]; exact hk14 k hk hne
  have hc14 := (hk14 c (by omega) (fun e => (hlvl c e).2 rfl)).trans hc
  have hc15 : W15.heap[c]? = some (.cells #[.int .i64 g.shards, .int .i64 g.dim, .int .u64 last, .slice (some ⟨g1, 0, none⟩) (g.l.length + 1) c1] 80 (0, 0)) := by
    rw [hW]; exact set_block hc14 3 _
  have hMM : Mod (fun k => k = c ∨ lv.ownBlock = some k) w W15 := by
    refine ⟨?_, ?_, ?_, by omega, fun k hk hne => ?_⟩
    · rw [hW]; exact hg.os.trans hM.os
    · rw [hW]; exact hg.tape.trans hM.tape
    · rw [hW]; exact hg.output.trans hM.output
    · rw [hk15 k (by omega) (fun e => hne (.inr e)) (fun e => hne (.inl e))]
      exact hM.block k hk (fun e => hne (.inl e))
  have hRo : ∀ k, newR w.heap.size W13.heap.size x.mb k → W15.heap[k]? = W13.heap[k]? := fun k hk => hk15 k hk.2.1 (fun e => by have := (hlvl k e).1; have := hk.1; omega) (fun e => by have := hk.1; omega)
  have hq15 : QAt W15 (newR w.heap.size W13.heap.size x.mb) x.b x.mb q x.vp x.vo x.vv x.vh x.pv := hq.agree hRo (hk15 x.mb hmb.2 (fun e => by have := (hlvl _ e).1; have := hmb.1; omega) (fun e => by have := hmb.1; omega))
  have ho15 : W15.ownsRow B 82 1 (.slice (some ⟨g1, 0, none⟩) (g.l.length + 1) c1) (g.l.length + 1) (Q.map Qp.ptr ++ [x.ptr]) := by
    rw [hW]
    refine ho.kept (grownBy_setCells c [_] 3 W14) (.inr ?_)
    intro e
    have e2 : g1 = c := by simpa [Value.ownBlock] using e
    rcases hgg with e3 | e3
    · exact (hlvl g1 e3).2 e2
    · omega
  have hlt15 : ∀ k, newR w.heap.size W13.heap.size x.mb k → w.heap.size ≤ k ∧ k < W15.heap.size := fun k hk => ⟨hk.1, by have := hk.2.1; omega⟩
  have P := h.pushed (RQ := newR w.heap.size W13.heap.size x.mb) hB hMM hc15 ho15 (fun k hk => by
    have e2 : g1 = k := by simpa [Value.ownBlock] using hk
    subst e2
    rcases hgg with e3 | e3
    · exact .inl e3
    · exact .inr ⟨by omega, fun e => by have := e.2.1; omega, by have := hmb.2; omega⟩) hq15 hlt15 ⟨hmb.1, by have := hmb.2; omega, fun e => e.2.2 rfl⟩
  refine ⟨⟨_, _, P.1, fun k hk => ?_, fun k hk => ?_⟩, P.2, fun k hk => (hlt15 k hk).2, hq15⟩
  · rcases hk with hk | rfl | hk
    · exact .inl hk
    · exact .inr hmb.1
    · have e2 : g1 = k := by simpa [Value.ownBlock] using hk
      subst e2
      rcases hgg with e3 | e3
      · exact .inl (h.lvF _ e3).1
      · exact .inr (by omega)
  · exact hk.imp id (fun h => h.1)

theorem rowQ : RowTy Tryd.prog 78 82 1 8 (.pointer none) := ⟨Tryd.underlying78, by kernel_rfl, rfl, by decide⟩
theorem rowI64 : RowTy Tryd.prog 33 3 1 8 (.int .i64 0) := ⟨Tryd.underlying33, by kernel_rfl, rfl, by decide⟩

theorem grownBy_of_mod {c : Nat} {w w' : World} (h : Mod (fun k => k = c) w w') : w.grownBy w' (some c) := ⟨h.os, h.tape, h.output, h.size, fun k hk hne => h.block k hk (fun e => hne (by rw [e]))⟩

/-- a new question -/
def madeQ (n : Nt) (frm stamp mark L : Int) (ps : List Int) : Qs := ⟨{n with kind := 9, stamp := stamp, mark := mark, query := L}, frm, n.query, ps, []⟩

theorem QAt.made {w w0 : World} {R E : Nat → Prop} {bq mb q0 q1 q2 q3 k7 : Nat} {p0 p1 p2 p3 p7 : Option Addr} {n : Nt} {frm stamp mark L : Int} {ps : List Int} {pv : Value} {t : TypeId} {cs : Array Value}
    (hY : w.heap[bq]? = some (.cells cs t (0, 0)))
    (hcs : cs = #[.int .u8 9, .int .u64 n.txn, .int .u64 n.batch, .int .u64 stamp, .int .u64 n.after, .int .u64 mark, .int .u64 L, .int .u64 n.id, .int .i64 n.k, .int .i64 n.ef, .int .i64 n.code, .int .i64 n.who, .slice p0 n.parts.length q0, .slice p1 n.ops.length q1, .slice p7 n.vec.length k7, .slice p3 n.hits.length q3, .int .i64 frm, .int .u64 n.query, pv, .map (some mb)])
    (hb : R bq) (h0 : NoteV w0 E n (.slice p0 n.parts.length q0) (.slice p1 n.ops.length q1) (.slice p2 n.vec.length q2) (.slice p3 n.hits.length q3)) (he : n.parts = [] ∧ n.ops = [] ∧ n.hits = [])
    (hv : Nums w .i32 (.slice p7 n.vec.length k7) n.vec) (hvR : ∀ k, (Value.slice p7 n.vec.length k7).ownBlock = some k → R k) (hp : Nums w .i64 pv ps) (hpR : ∀ k, pv.ownBlock = some k → R k) (hm : MapAt w (Value.int .i64) mb []) :
    QAt w R bq mb (madeQ n frm stamp mark L ps) (.slice p0 n.parts.length q0) (.slice p1 n.ops.length q1) (.slice p7 n.vec.length k7) (.slice p3 n.hits.length q3) pv := by
  subst hcs
  have hN : NoteM w0 (fun _ => True) n (.slice p0 n.parts.length q0) (.slice p1 n.ops.length q1) (.slice p2 n.vec.length q2) (.slice p3 n.hits.length q3) :=
    ⟨⟨h0.parts, h0.ops.mono (fun _ _ => trivial), h0.vec, h0.hits.mono (fun _ _ => trivial)⟩, fun _ _ _ => trivial, fun _ _ _ => trivial⟩
  have hN2 := (hN.swap he hv).mono hvR
  refine ⟨fun j u hj => ?_, ⟨_, _, hY⟩, hb, ?_, hp, fun _ k hk => hpR k hk, he, [], hm, rfl, fun i h => absurd h (by simp)⟩
  · rw [cells_get hY j, ← Array.getElem?_toList]; exact hj
  · exact ⟨⟨hN2.read.parts, hN2.read.ops, hN2.read.vec, hN2.read.hits⟩, hN2.parts, hN2.vec⟩

/-- the shards from the first on -/
def upTo (k : Nat) : List Int := (List.range k).map fun (p : Nat) => (p : Int) + 1

theorem upTo_length (k : Nat) : (upTo k).length = k := by simp [upTo]

theorem upTo_succ (k : Nat) : upTo (k + 1) = upTo k ++ [(k : Int) + 1] := by simp [upTo, List.range_succ]

/-- the parts of a new question, while they are put -/
structure PartsAt (W wr : World) (bq k : Nat) (cs : Array Value) (t : TypeId) (pv : Value) : Prop where
  mod : Mod (fun j => j = bq) W wr
  blk : wr.heap[bq]? = some (.cells (cs.setIfInBounds 18 pv) t (0, 0))
  own : wr.ownsRow W.heap.size 3 1 pv k ((upTo k).map (Value.int .i64))

theorem PartsAt.start {W : World} {bq : Nat} {cs : Array Value} {t : TypeId} (h : W.heap[bq]? = some (.cells cs t (0, 0))) (hc : cs.setIfInBounds 18 (.slice none 0 0) = cs) : PartsAt W W bq 0 cs t (.slice none 0 0) :=
  ⟨Mod.refl _ _, by rw [hc]; exact h, World.ownsRow_nil _ _ _ _⟩

theorem PartsAt.step {W wr w5 : World} {bq k : Nat} {cs : Array Value} {t : TypeId} {pv pv' : Value} {o : Obj} (h : PartsAt W wr bq k cs t pv) (hbq : bq < W.heap.size) (hg : (wr.alloc o).grownBy w5 pv.ownBlock)
    (ho : w5.ownsRow W.heap.size 3 1 pv' (k + 1) ((upTo k).map (Value.int .i64) ++ [.int .i64 ((k : Int) + 1)])) : PartsAt W (w5.setCell ⟨bq, 18, none⟩ pv') bq (k + 1) cs t pv' := by
  have hs := h.mod.size
  have hne : ∀ j, pv.ownBlock = some j → W.heap.size ≤ j := fun j e => (h.own.lt j e).1
  have hb : w5.heap[bq]? = wr.heap[bq]? := by
    rw [hg.block bq (by rw [World.size_alloc]; omega) (fun e => by have := hne bq e.symm; omega)]
    exact Below.heap_alloc wr o bq (by omega)
  refine ⟨?_, ?_, ?_⟩
  · exact ((h.mod.andBelow ((Below.refl _ _).alloc (Nat.le_refl _) o)).grown hg (fun j e => .inr (hne j e))).setCell (.inl rfl) _
  · have := set_block (hb.trans h.blk) 18 pv'
    rw [this]
    simp
  · rw [upTo_succ, List.map_append]
    exact ho.kept (grownBy_setCells bq [_] 18 w5) (.inr (fun e => by have := (ho.lt _ e).1; omega))

end Go.Proofs.YtfmlhdikagogcaaDoor

namespace Go.Proofs.YtfmlhdikagogcaaDoor
open Go.RowKit
set_option maxRecDepth 20000


set_option maxHeartbeats 4000000 in
theorem hearCode
    (B c : Nat) (F R E : Nat → Prop) (g : Gz) (n : Nt) (vp vo vv vh : Value) (frm : Int) (w : World) (hT : Tab w) (hG : GAt w B c F R g) (hB : B ≤ w.heap.size) (hok : GOk g) (hv : NoteV w E n vp vo vv vh) (hkd : 0 ≤ n.kind ∧ n.kind ≤ 255) (hlen : n.parts.length ≤ 1000000 ∧ n.ops.length ≤ 1000000 ∧ n.vec.length ≤ 1000000 ∧ n.hits.length ≤ 1000000) (hE : ∀ k, E k → k < w.heap.size ∧ ¬ F k)
    (hodd : oddB frm n 10 = false) (k : Nat) (hk : k < g.l.length) (hp : hearP n g.l[k] = true) (hmin : ∀ j (h : j < g.l.length), j < k → hearP n g.l[j] = false) (hnt : hasTold g.l[k].told frm = false) (hpt : (g.l[k].parts.any fun y => decide (frm = y)) = true)
    (hcode : n.code ≠ 0) :
    Calls Tryd.prog 13 #[.pointer (some ⟨c, 0, none⟩), .int .i64 frm, .agg (n.cells vp vo vv vh)] w (GTold w B c F R E (hearZ g frm n).1 (hearZ g frm n).2) := by
  obtain ⟨p0, q0, rfl, -, -, -, -⟩ := hv.parts.slice
  obtain ⟨p1, q1, rfl, -, -, -, -⟩ := id hv.ops
  obtain ⟨p2, q2, rfl, -, -, -, -⟩ := hv.vec.slice
  obtain ⟨p3, q3, rfl, -, -, -, -⟩ := id hv.hits
  obtain ⟨W1, hW1⟩ : ∃ W1, W1 = w.alloc (.cells (n.cells (.slice p0 n.parts.length q0) (.slice p1 n.ops.length q1) (.slice p2 n.vec.length q2) (.slice p3 n.hits.length q3)) 37) := ⟨_, rfl⟩
  have hB1 : Below w.heap.size w W1 := by rw [hW1]; exact (Below.refl _ _).alloc (Nat.le_refl _) _
  have y0 : W1.heap[w.heap.size]? = some (.cells (n.cells (.slice p0 n.parts.length q0) (.slice p1 n.ops.length q1) (.slice p2 n.vec.length q2) (.slice p3 n.hits.length q3)) 37 (0, 0)) := by rw [hW1]; exact heap_alloc_new _ _
  have hs1 : w.heap.size < W1.heap.size := by rw [hW1]; simp
  have OD := Lib.hid (odd frm 10 n E _ _ _ _ W1 (hT.below hB1) (hv.below hB1) hkd hlen)
  have B1 := Lib.hid hB1
  have V := Lib.hid hv
  have GG := Lib.hid hG
  have OK := Lib.hid hok
  have HR := Lib.hid (show ∀ k, R k → k < w.heap.size from by obtain ⟨lv, Q, hI⟩ := hG; exact fun k hk => (hI.apart k hk).1)
  have HBB := Lib.hid hB
  have HE := Lib.hid hE
  obtain ⟨⟨z0, -, -, -, -⟩, ⟨-, z6, -, -, -⟩, ⟨z10, -, -, -, -⟩, z15⟩ := note_get y0
  clear hT hv hkd hlen hB1 y0 hG hok hB hE
  unfold Nt.cells at *
  have AZ := Lib.hid (show hearZ g frm n = ([(g.l[k].who, resN g.l[k].note.stamp g.l[k].query n.code [])], dropZ g k) by rw [hearZ_at hodd hk hp hmin]; unfold hearAt; rw [hnt, hpt, if_neg (by simp), if_pos hcode])
  have POS := Lib.hid (posG_at hk hmin hp)
  clear hmin hp
  rw [hodd] at OD
  have OB := Lib.hid hodd
  clear hodd
  go_enter Tryd.func13, Tryd.ntmps13
  go_wp2_with fail
  rw [← hW1]
  clear hW1
  refine OD.out.mono ?_
  rintro e W2 ⟨rfl, hb2⟩
  clear OD
  obtain ⟨lv, Q, h0⟩ := GG.out
  have hI := h0.below (B1.out.trans (hb2.mono B1.out.size))
  obtain ⟨-, -, -, x3, -⟩ := hI.get
  obtain ⟨p, m, cap, rfl⟩ := own_form hI.row
  obtain rfl : m = g.l.length := own_len hI.row
  have B2 := Lib.hid (B1.out.trans (hb2.mono B1.out.size))
  have II := Lib.hid hI
  have G0 := Lib.hid h0
  replace z0 := below_cells hb2 z0
  replace z6 := below_cells hb2 z6
  replace z10 := below_cells hb2 z10
  replace z15 := below_cells hb2 z15
  have hl8 := OK.out.most
  have hs2 : w.heap.size < W2.heap.size := by have := hb2.size; omega
  have IX := Lib.hid (indexHear (.pointer (some ⟨w.heap.size, 0, none⟩)) (.slice p g.l.length cap) (hearP n) g.l (Q.map Qp.b) B W2 (by rw [List.length_map, hI.len]) (by omega) (by rw [← ptr_map]; exact hI.row) (fun i h1 h2 w' hb => by
    have h1' : i < Q.length := by simpa using h1
    have hq := (hI.each i h1' h2)
    obtain ⟨-, ⟨-, x6, -, -, -⟩, -, -⟩ := hq.get
    have e1 : (Q.map Qp.b)[i] = Q[i].b := by simp
    rw [e1]
    exact hear1 Q[i].b w.heap.size g.l[i].note.query n.query w' (below_cells hb x6) (below_cells hb z6)))
  clear hb2 h0 hI
  go_wp2_with fail
  refine IX.out.mono ?_
  rintro e W3 ⟨rfl, hb3⟩
  clear IX
  rw [POS.out]
  have I3 := Lib.hid (II.out.below hb3)
  have B3 := Lib.hid (B2.out.trans (hb3.mono B2.out.size))
  replace x3 := below_cells hb3 x3
  replace z10 := below_cells hb3 z10
  replace z15 := below_cells hb3 z15
  have hs3 : w.heap.size < W3.heap.size := by have := hb3.size; omega
  have hkQ : k < Q.length := by rw [I3.out.len]; exact hk
  obtain ⟨b, rfl, -, c0⟩ := row_elem I3.out.row (i := k) (by simpa using hkQ)
  have c1 : W3.cell? ⟨b, k, none⟩ = some (.pointer (some ⟨Q[k].b, 0, none⟩)) := by rw [c0]; simp [Qp.ptr]
  have QQ := Lib.hid (I3.out.each k hkQ hk)
  obtain ⟨⟨-, -, -, q3x, -⟩, -, ⟨-, -, -, -, q14⟩, ⟨-, q16, q17, q18, q19⟩⟩ := QQ.out.get
  obtain ⟨L, hM, hTo⟩ := QQ.out.told
  have hlk := run_look koInt Tryd.underlying83 hM (zeroHits W3) frm true
  have TG := Lib.hid (told_get hTo frm)
  obtain ⟨pp, pc, hpv, -, -, -, -⟩ := QQ.out.parts.slice
  rw [hpv] at q18
  have CI := Lib.hid (containsInt frm g.l[k].parts _ W3 QQ.out.parts)
  rw [hpv] at CI
  have ML := Lib.hid (And.intro hM hTo)
  have PV := Lib.hid hpv
  clear hb3 z6 z0 c0 hM hTo hpv
  have t2 : getK L frm = none := by
    rcases TG.out with ⟨-, t2⟩ | ⟨t1, -⟩
    · exact t2
    · rw [hnt] at t1; exact Bool.noConfusion t1
  rw [t2] at hlk
  simp only [if_true, Option.getD_none, Option.isSome_none] at hlk
  rw [hpt] at CI
  have NL := Lib.hid t2
  clear t2 hnt hpt TG
  have e1 : (n.code != 0) = true := by simpa using hcode
  have OV := Lib.hid (over B c k F R g _ Q W3 I3.out hk hkQ (by omega))
  clear hcode
  go_wp2_with fail
  refine CI.out.mono ?_
  rintro e W4 ⟨rfl, rfl⟩
  go_wp2_with fail
  refine OV.out.mono ?_
  rintro e W5 ⟨rfl, ⟨lv', hG5⟩, hm5, -⟩
  have hA := Agree.of_mod hm5 (fun j hj => (I3.out.apart j hj).1) (fun j hj => (I3.out.apart j hj).2)
  have y3 := (hA.cell (a := ⟨Q[k].b, 3, none⟩) QQ.out.own).trans q3x
  have y16 := (hA.cell (a := ⟨Q[k].b, 16, none⟩) QQ.out.own).trans q16
  have y17 := (hA.cell (a := ⟨Q[k].b, 17, none⟩) QQ.out.own).trans q17
  have y10 := (World.cell?_of_block (a := ⟨w.heap.size, 10, none⟩) (hm5.block w.heap.size hs3 (fun hf => by have := (G0.out.low _ hf).2; omega))).trans z10
  have RS := Lib.hid (result Q[k].b g.l[k].who g.l[k].note.stamp g.l[k].query n.code [] (.slice none 0 0) (fun _ => False) W5 y3 y16 y17 (HitsF.nil _ _) (fun _ h => h.elim))
  have M5 := Lib.hid (And.intro hG5 ((Mod.of_below B3.out).trans hm5 (fun _ _ h => h)))
  clear hA hG5 hm5
  go_wp2_with fail
  refine RS.out.mono ?_
  intro e w6 hN
  have FIN := Lib.hid (GTold.after (E := E) ⟨_, _, M5.out.1⟩ M5.out.2 (fun _ h => .inl h) (fun _ h => .inl h) (fun _ h => h.elim) hN)
  obtain ⟨v3, rs3, G3, rfl, -⟩ := hN
  go_wp2_with fail
  go_ret
  rw [AZ.out]
  exact FIN.out

end Go.Proofs.YtfmlhdikagogcaaDoor

namespace Go.Proofs.YtfmlhdikagogcaaDoor
open Go.RowKit
set_option maxRecDepth 20000


/-- nothing is told; more is read -/
theorem GTold.silent {w w' : World} {B c : Nat} {F R R' E : Nat → Prop} {g : Gz} (h : GAt w' B c F R' g) (hm : Mod F w w') (hR : ∀ k, R' k → R k ∨ E k ∨ w.heap.size ≤ k) : GTold w B c F R E [] g (.returned (.slice Option.none 0 0)) w' :=
  ⟨_, [], fun _ => False, F, R', rfl, World.ownsRow_nil _ _ _ _, rfl, fun r hr => absurd hr (by simp), fun _ h => h.elim, fun k h => by simp [Value.ownBlock] at h, h, hm, fun _ h => .inl h, hR⟩

set_option maxHeartbeats 4000000 in
theorem hearMore
    (B c : Nat) (F R E : Nat → Prop) (g : Gz) (n : Nt) (vp vo vv vh : Value) (frm : Int) (w : World) (hT : Tab w) (hG : GAt w B c F R g) (hB : B ≤ w.heap.size) (hok : GOk g) (hv : NoteV w E n vp vo vv vh) (hkd : 0 ≤ n.kind ∧ n.kind ≤ 255) (hlen : n.parts.length ≤ 1000000 ∧ n.ops.length ≤ 1000000 ∧ n.vec.length ≤ 1000000 ∧ n.hits.length ≤ 1000000) (hE : ∀ k, E k → k < w.heap.size ∧ ¬ F k)
    (hodd : oddB frm n 10 = false) (k : Nat) (hk : k < g.l.length) (hp : hearP n g.l[k] = true) (hmin : ∀ j (h : j < g.l.length), j < k → hearP n g.l[j] = false) (hnt : hasTold g.l[k].told frm = false) (hpt : (g.l[k].parts.any fun y => decide (frm = y)) = true)
    (hcode : n.code = 0) (hmore : g.l[k].told.length + 1 < g.l[k].parts.length) :
    Calls Tryd.prog 13 #[.pointer (some ⟨c, 0, none⟩), .int .i64 frm, .agg (n.cells vp vo vv vh)] w (GTold w B c F R E (hearZ g frm n).1 (hearZ g frm n).2) := by
  obtain ⟨p0, q0, rfl, -, -, -, -⟩ := hv.parts.slice
  obtain ⟨p1, q1, rfl, -, -, -, -⟩ := id hv.ops
  obtain ⟨p2, q2, rfl, -, -, -, -⟩ := hv.vec.slice
  obtain ⟨p3, q3, rfl, -, -, -, -⟩ := id hv.hits
  obtain ⟨W1, hW1⟩ : ∃ W1, W1 = w.alloc (.cells (n.cells (.slice p0 n.parts.length q0) (.slice p1 n.ops.length q1) (.slice p2 n.vec.length q2) (.slice p3 n.hits.length q3)) 37) := ⟨_, rfl⟩
  have hB1 : Below w.heap.size w W1 := by rw [hW1]; exact (Below.refl _ _).alloc (Nat.le_refl _) _
  have y0 : W1.heap[w.heap.size]? = some (.cells (n.cells (.slice p0 n.parts.length q0) (.slice p1 n.ops.length q1) (.slice p2 n.vec.length q2) (.slice p3 n.hits.length q3)) 37 (0, 0)) := by rw [hW1]; exact heap_alloc_new _ _
  have hs1 : w.heap.size < W1.heap.size := by rw [hW1]; simp
  have OD := Lib.hid (odd frm 10 n E _ _ _ _ W1 (hT.below hB1) (hv.below hB1) hkd hlen)
  have B1 := Lib.hid hB1
  have V := Lib.hid hv
  have GG := Lib.hid hG
  have OK := Lib.hid hok
  have HR := Lib.hid (show ∀ k, R k → k < w.heap.size from by obtain ⟨lv, Q, hI⟩ := hG; exact fun k hk => (hI.apart k hk).1)
  have HBB := Lib.hid hB
  have HE := Lib.hid hE
  obtain ⟨⟨z0, -, -, -, -⟩, ⟨-, z6, -, -, -⟩, ⟨z10, -, -, -, -⟩, z15⟩ := note_get y0
  clear hT hv hkd hlen hB1 y0 hG hok hB hE
  unfold Nt.cells at *
  have AZ := Lib.hid (show hearZ g frm n = ([], toldZ g k g.l[k] (g.l[k].told ++ [(frm, n.hits)])) by rw [hearZ_at hodd hk hp hmin]; unfold hearAt; rw [hnt, hpt, if_neg (by simp), if_neg (by simpa using hcode), if_pos hmore])
  have POS := Lib.hid (posG_at hk hmin hp)
  have HC := Lib.hid hcode
  have HM := Lib.hid hmore
  clear hmin hp hcode hmore
  rw [hodd] at OD
  have OB := Lib.hid hodd
  clear hodd
  go_enter Tryd.func13, Tryd.ntmps13
  go_wp2_with fail
  rw [← hW1]
  clear hW1
  refine OD.out.mono ?_
  rintro e W2 ⟨rfl, hb2⟩
  clear OD
  obtain ⟨lv, Q, h0⟩ := GG.out
  have hI := h0.below (B1.out.trans (hb2.mono B1.out.size))
  obtain ⟨-, -, -, x3, -⟩ := hI.get
  obtain ⟨p, m, cap, rfl⟩ := own_form hI.row
  obtain rfl : m = g.l.length := own_len hI.row
  have B2 := Lib.hid (B1.out.trans (hb2.mono B1.out.size))
  have II := Lib.hid hI
  have G0 := Lib.hid h0
  replace z0 := below_cells hb2 z0
  replace z6 := below_cells hb2 z6
  replace z10 := below_cells hb2 z10
  replace z15 := below_cells hb2 z15
  have hl8 := OK.out.most
  have hs2 : w.heap.size < W2.heap.size := by have := hb2.size; omega
  have IX := Lib.hid (indexHear (.pointer (some ⟨w.heap.size, 0, none⟩)) (.slice p g.l.length cap) (hearP n) g.l (Q.map Qp.b) B W2 (by rw [List.length_map, hI.len]) (by omega) (by rw [← ptr_map]; exact hI.row) (fun i h1 h2 w' hb => by
    have h1' : i < Q.length := by simpa using h1
    have hq := (hI.each i h1' h2)
    obtain ⟨-, ⟨-, x6, -, -, -⟩, -, -⟩ := hq.get
    have e1 : (Q.map Qp.b)[i] = Q[i].b := by simp
    rw [e1]
    exact hear1 Q[i].b w.heap.size g.l[i].note.query n.query w' (below_cells hb x6) (below_cells hb z6)))
  clear hb2 h0 hI
  go_wp2_with fail
  refine IX.out.mono ?_
  rintro e W3 ⟨rfl, hb3⟩
  clear IX
  rw [POS.out]
  have I3 := Lib.hid (II.out.below hb3)
  have B3 := Lib.hid (B2.out.trans (hb3.mono B2.out.size))
  replace x3 := below_cells hb3 x3
  replace z10 := below_cells hb3 z10
  replace z15 := below_cells hb3 z15
  have hs3 : w.heap.size < W3.heap.size := by have := hb3.size; omega
  have hkQ : k < Q.length := by rw [I3.out.len]; exact hk
  obtain ⟨b, rfl, -, c0⟩ := row_elem I3.out.row (i := k) (by simpa using hkQ)
  have c1 : W3.cell? ⟨b, k, none⟩ = some (.pointer (some ⟨Q[k].b, 0, none⟩)) := by rw [c0]; simp [Qp.ptr]
  have QQ := Lib.hid (I3.out.each k hkQ hk)
  obtain ⟨⟨-, -, -, q3x, -⟩, -, ⟨-, -, -, -, q14⟩, ⟨-, q16, q17, q18, q19⟩⟩ := QQ.out.get
  obtain ⟨L, hM, hTo⟩ := QQ.out.told
  have hlk := run_look koInt Tryd.underlying83 hM (zeroHits W3) frm true
  have TG := Lib.hid (told_get hTo frm)
  obtain ⟨pp, pc, hpv, -, -, -, -⟩ := QQ.out.parts.slice
  rw [hpv] at q18
  have CI := Lib.hid (containsInt frm g.l[k].parts _ W3 QQ.out.parts)
  rw [hpv] at CI
  have ML := Lib.hid (And.intro hM hTo)
  have PV := Lib.hid hpv
  clear hb3 z6 z0 c0 hM hTo hpv
  have t2 : getK L frm = none := by
    rcases TG.out with ⟨-, t2⟩ | ⟨t1, -⟩
    · exact t2
    · rw [hnt] at t1; exact Bool.noConfusion t1
  rw [t2] at hlk
  simp only [if_true, Option.getD_none, Option.isSome_none] at hlk
  rw [hpt] at CI
  have NL := Lib.hid t2
  clear t2 hnt hpt TG
  have e1 : (n.code != 0) = false := by rw [HC.out]; rfl
  go_wp2_with fail
  refine CI.out.mono ?_
  rintro e W4 ⟨rfl, rfl⟩
  go_wp2_with fail
  obtain ⟨W5, hW5⟩ : ∃ W5, W5 = W4.drew := ⟨_, rfl⟩
  have b5 : Below W4.heap.size W4 W5 := by rw [hW5]; exact (Below.refl _ _).drew
  have hM5 : MapAt W5 (Value.int .i64) Q[k].mb L := ML.out.1.kept (by rw [hW5]; rfl)
  replace z15 := below_cells b5 z15
  have q19c := q19
  replace q19 := below_cells b5 q19
  have I5 := Lib.hid (I3.out.below b5)
  have QQ5 := Lib.hid (QQ.out.below b5)
  have T5 := Lib.hid (ML.out.2.below b5)
  have B5 := Lib.hid (B3.out.trans (b5.mono B3.out.size))
  obtain ⟨W6, hput, hM6, hg6, hs6⟩ := run_put koInt Tryd.underlying83 hM5 frm (.slice p3 n.hits.length q3)
  have hs5 := b5.size
  have HW := Lib.hid hW5
  have M6 := Lib.hid (And.intro hM6 (And.intro hg6 hs6))
  clear hW5 hM5 hM6 hg6 hs6
  refine region_goN 7 (fun w' => w'.cell? ⟨w.heap.size, 15, none⟩ = some (.slice p3 n.hits.length q3) ∧ w'.cell? ⟨Q[k].b, 19, none⟩ = some (.map (some Q[k].mb))) (by kernel_rfl) ?hS0 (fun hH => ?_)
  case hS0 =>
    rw [← HW.out]; exact ⟨z15, q19⟩
  rw [← HW.out] at hH ⊢
  refine tkYN (v := ?_) 0 hH rfl (fun _ _ _ h => h) ?hc ?hw ?hy ?_
  case hc => decide +kernel
  case hw => rfl
  case hy => (intro w hS; (try dsimp only at hS); go_simp; try with_reducible rfl)
  (try simp only [Act.put]); (repeat (first | simp only [List.setIfInBounds_toArray] | simp only [List.set_cons_zero] | simp only [List.set_cons_succ]))
  refine tkYN (v := ?_) 1 hH rfl (fun _ _ _ h => h) ?hc ?hw ?hy ?_
  case hc => decide +kernel
  case hw => rfl
  case hy => (intro w hS; (try dsimp only at hS); go_simp; try with_reducible rfl)
  (try simp only [Act.put]); (repeat (first | simp only [List.setIfInBounds_toArray] | simp only [List.set_cons_zero] | simp only [List.set_cons_succ]))
  refine tkYN (v := ?_) 2 hH rfl (fun _ _ _ h => h) ?hc ?hw ?hy ?_
  case hc => decide +kernel
  case hw => rfl
  case hy => (intro w hS; (try dsimp only at hS); go_simp; try with_reducible rfl)
  (try simp only [Act.put]); (repeat (first | simp only [List.setIfInBounds_toArray] | simp only [List.set_cons_zero] | simp only [List.set_cons_succ]))
  refine tkYN (v := ?_) 3 hH rfl (fun _ _ _ h => h) ?hc ?hw ?hy ?_
  case hc => decide +kernel
  case hw => rfl
  case hy => (intro w hS; (try dsimp only at hS); go_simp; try with_reducible rfl)
  (try simp only [Act.put]); (repeat (first | simp only [List.setIfInBounds_toArray] | simp only [List.set_cons_zero] | simp only [List.set_cons_succ]))
  refine tkYN (v := ?_) 4 hH rfl (fun _ _ _ h => h) ?hc ?hw ?hy ?_
  case hc => decide +kernel
  case hw => rfl
  case hy => (intro w hS; (try dsimp only at hS); go_simp; try with_reducible rfl)
  (try simp only [Act.put]); (repeat (first | simp only [List.setIfInBounds_toArray] | simp only [List.set_cons_zero] | simp only [List.set_cons_succ]))
  refine tkYN (v := ?_) 5 hH rfl (fun _ _ _ h => h) ?hc ?hw ?hy ?_
  case hc => decide +kernel
  case hw => rfl
  case hy => (intro w hS; (try dsimp only at hS); go_simp; try with_reducible rfl)
  (try simp only [Act.put]); (repeat (first | simp only [List.setIfInBounds_toArray] | simp only [List.set_cons_zero] | simp only [List.set_cons_succ]))
  refine tkYN (v := ?_) 6 hH rfl (fun _ _ _ h => h) ?hc ?hw ?hy ?_
  case hc => decide +kernel
  case hw => rfl
  case hy => (intro w hS; (try dsimp only at hS); go_simp; try with_reducible rfl)
  (try simp only [Act.put]); (repeat (first | simp only [List.setIfInBounds_toArray] | simp only [List.set_cons_zero] | simp only [List.set_cons_succ]))
  refine spkL rfl ?hr ?hw (fun K' hK => ?_)
  case hr => decide +kernel
  case hw => rfl
  go_simp
  try dsimp only
  refine hK.out _ _ ?_
  clear hK K' hH; (try simp only [Act.put]); (repeat (first | simp only [List.setIfInBounds_toArray] | simp only [List.set_cons_zero] | simp only [List.set_cons_succ]))
  refine anyBut_done (by decide +kernel) ?_ _
  skip
  have hA6 : ∀ j, j < W5.heap.size → ¬ F j → W6.heap[j]? = W5.heap[j]? := fun j h1 h2 => M6.out.2.1.block j h1 (fun e => h2 (by rw [Option.some.inj e]; exact (I5.out.mbF Q[k] (List.getElem_mem hkQ)).1))
  have hE6 : ∀ j, E j → W6.heap[j]? = W5.heap[j]? := fun j hj => hA6 j (Nat.lt_of_lt_of_le (HE.out j hj).1 B5.out.size) (HE.out j hj).2
  have T6 := Lib.hid (((T5.out.agree (fun j hj => hA6 j (I5.out.apart j hj).1 (I5.out.apart j hj).2)).mono (G := fun j => R j ∨ E j) fun _ => .inl).snoc (p := frm) (((V.out.hits.below B5.out).agree hE6).mono fun _ => .inr))
  obtain ⟨L6, hL6⟩ : ∃ L6, L6 = L ++ [(frm, Value.slice p3 n.hits.length q3)] := ⟨_, rfl⟩
  have MP6 : MapAt W6 (Value.int .i64) Q[k].mb L6 := by rw [hL6, ← putK_none NL.out]; exact M6.out.1
  rw [← hL6] at T6
  have P6 := Lib.hid (I5.out.put hkQ hk (fun j hj => ⟨Nat.lt_of_lt_of_le (HE.out j hj).1 B5.out.size, (HE.out j hj).2⟩) M6.out.2.1 MP6 T6.out)
  have LL6 := Lib.hid (show L6.length = g.l[k].told.length + 1 by have := T6.out.1; simpa using this)
  have hbk : W6.heap[Q[k].b]? = W4.heap[Q[k].b]? := by rw [hA6 _ (I5.out.apart _ QQ5.out.own).1 (I5.out.apart _ QQ5.out.own).2, b5.block _ (I3.out.apart _ QQ.out.own).1]
  have r3 := (World.cell?_of_block (a := ⟨Q[k].b, 3, none⟩) hbk).trans q3x
  have r14 := (World.cell?_of_block (a := ⟨Q[k].b, 14, none⟩) hbk).trans q14
  have r16 := (World.cell?_of_block (a := ⟨Q[k].b, 16, none⟩) hbk).trans q16
  have r17 := (World.cell?_of_block (a := ⟨Q[k].b, 17, none⟩) hbk).trans q17
  have r18 := (World.cell?_of_block (a := ⟨Q[k].b, 18, none⟩) hbk).trans q18
  have r19 := (World.cell?_of_block (a := ⟨Q[k].b, 19, none⟩) hbk).trans q19c
  clear hA6 hE6 hL6 hbk hput b5
  go_wp2_with fail
  obtain ⟨W7, hW7⟩ : ∃ W7, W7 = W6.drew := ⟨_, rfl⟩
  have b7 : Below W6.heap.size W6 W7 := by rw [hW7]; exact (Below.refl _ _).drew
  have MP7 : MapAt W7 (Value.int .i64) Q[k].mb L6 := MP6.kept (by rw [hW7]; rfl)
  have hln : ∀ W, MapAt W (Value.int .i64) Q[k].mb L6 → ∀ ty, (Builtin.len_ #[83] ty #[.map (some Q[k].mb)]).run Tryd.prog W = .ok (.int .i64 L6.length) W := fun W h ty => run_len Tryd.underlying83 h ty
  replace r3 := below_cells b7 r3
  replace r14 := below_cells b7 r14
  replace r16 := below_cells b7 r16
  replace r17 := below_cells b7 r17
  replace r18 := below_cells b7 r18
  replace r19 := below_cells b7 r19
  have B7 := Lib.hid b7
  have HW7 := Lib.hid hW7
  clear hW7 b7 MP6
  refine region_go (fun w' => w'.cell? ⟨Q[k].b, 19, none⟩ = some (.map (some Q[k].mb)) ∧ w'.cell? ⟨Q[k].b, 18, none⟩ = some (.slice pp g.l[k].parts.length pc) ∧ MapAt w' (Value.int .i64) Q[k].mb L6) (by kernel_rfl) ?hS0 (fun hH => ?_)
  case hS0 =>
    rw [← HW7.out]; exact ⟨r19, r18, MP7⟩
  rw [← HW7.out] at hH ⊢
  refine tkY (v := ?_) 0 hH rfl (fun _ _ _ h => h) ?hc ?hw ?hy ?_
  case hc => decide +kernel
  case hw => rfl
  case hy => (intro w hS; (try dsimp only at hS); go_simp; try with_reducible rfl)
  (try simp only [Act.put]); (repeat (first | simp only [List.setIfInBounds_toArray] | simp only [List.set_cons_zero] | simp only [List.set_cons_succ]))
  refine tkY (v := ?_) 1 hH rfl (fun _ _ _ h => h) ?hc ?hw ?hy ?_
  case hc => decide +kernel
  case hw => rfl
  case hy => (intro w hS; (try dsimp only at hS); go_simp; try with_reducible rfl)
  (try simp only [Act.put]); (repeat (first | simp only [List.setIfInBounds_toArray] | simp only [List.set_cons_zero] | simp only [List.set_cons_succ]))
  refine tkY (v := ?_) 2 hH rfl (fun _ _ _ h => h) ?hc ?hw ?hy ?_
  case hc => decide +kernel
  case hw => rfl
  case hy => (intro w hS; (try dsimp only at hS); go_simp; try with_reducible rfl)
  (try simp only [Act.put]); (repeat (first | simp only [List.setIfInBounds_toArray] | simp only [List.set_cons_zero] | simp only [List.set_cons_succ]))
  refine tkY (v := ?_) 3 hH rfl (fun _ _ _ h => h) ?hc ?hw ?hy ?_
  case hc => decide +kernel
  case hw => rfl
  case hy => (intro w hS; (try dsimp only at hS); go_simp; try with_reducible rfl)
  (try simp only [Act.put]); (repeat (first | simp only [List.setIfInBounds_toArray] | simp only [List.set_cons_zero] | simp only [List.set_cons_succ]))
  refine tkY (v := ?_) 4 hH rfl (fun _ _ _ h => h) ?hc ?hw ?hy ?_
  case hc => decide +kernel
  case hw => rfl
  case hy => (intro w hS; (try dsimp only at hS); go_simp; try with_reducible rfl)
  (try simp only [Act.put]); (repeat (first | simp only [List.setIfInBounds_toArray] | simp only [List.set_cons_zero] | simp only [List.set_cons_succ]))
  refine tkY (v := ?_) 5 hH rfl (fun _ _ _ h => h) ?hc ?hw ?hy ?_
  case hc => decide +kernel
  case hw => rfl
  case hy => (intro w hS; (try dsimp only at hS); go_simp; try with_reducible rfl)
  (try simp only [Act.put]); (repeat (first | simp only [List.setIfInBounds_toArray] | simp only [List.set_cons_zero] | simp only [List.set_cons_succ]))
  refine tkY (v := ?_) 6 hH rfl (fun _ _ _ h => h) ?hc ?hw ?hy ?_
  case hc => decide +kernel
  case hw => rfl
  case hy => (intro w hS; (try dsimp only at hS); go_simp; try with_reducible rfl)
  (try simp only [Act.put]); (repeat (first | simp only [List.setIfInBounds_toArray] | simp only [List.set_cons_zero] | simp only [List.set_cons_succ]))
  refine tkY (v := ?_) 7 hH rfl (fun _ _ _ h => h) ?hc ?hw ?hy ?_
  case hc => decide +kernel
  case hw => rfl
  case hy => (intro w hS; (try dsimp only at hS); go_simp; try with_reducible rfl)
  (try simp only [Act.put]); (repeat (first | simp only [List.setIfInBounds_toArray] | simp only [List.set_cons_zero] | simp only [List.set_cons_succ]))
  refine tkY (v := ?_) 8 hH rfl (fun _ _ _ h => h) ?hc ?hw ?hy ?_
  case hc => decide +kernel
  case hw => rfl
  case hy => (intro w hS; (try dsimp only at hS); go_simp; try with_reducible rfl)
  (try simp only [Act.put]); (repeat (first | simp only [List.setIfInBounds_toArray] | simp only [List.set_cons_zero] | simp only [List.set_cons_succ]))
  refine tkY (v := ?_) 9 hH rfl (fun _ _ _ h => h) ?hc ?hw ?hy ?_
  case hc => decide +kernel
  case hw => rfl
  case hy => (intro w hS; (try dsimp only at hS); go_simp; try with_reducible rfl)
  (try simp only [Act.put]); (repeat (first | simp only [List.setIfInBounds_toArray] | simp only [List.set_cons_zero] | simp only [List.set_cons_succ]))
  refine tkY (v := ?_) 10 hH rfl (fun _ _ _ h => h) ?hc ?hw ?hy ?_
  case hc => decide +kernel
  case hw => rfl
  case hy => (intro w hS; (try dsimp only at hS); go_simp; try with_reducible rfl)
  (try simp only [Act.put]); (repeat (first | simp only [List.setIfInBounds_toArray] | simp only [List.set_cons_zero] | simp only [List.set_cons_succ]))
  refine wpAnyH_done (by decide +kernel) ?_ _
  clear hH
  have hlt6 : L6.length < g.l[k].parts.length := by have := HM.out; have := LL6.out; omega
  have G7 := Lib.hid (And.intro (P6.out.1.below B7.out) (((Mod.of_below B5.out).trans P6.out.2 (fun _ _ h => h)).andBelow B7.out))
  clear hln MP7 r3 r14 r16 r17 r18 r19
  go_wp2_with fail
  go_ret
  rw [AZ.out]
  exact GTold.silent ⟨_, _, G7.out.1⟩ G7.out.2 (fun j hj => hj.imp id .inl)

end Go.Proofs.YtfmlhdikagogcaaDoor

namespace Go.Proofs.YtfmlhdikagogcaaDoor
open Go.RowKit
set_option maxRecDepth 20000

theorem merge_no (n : Int) (hn : n < 1) (ls : List (List Hz)) (E : Nat → Prop) (v : Value) (w : World) (h : ListsF w E v ls) :
    Calls Tryd.prog 41 #[.int .i64 n, v] w (FreshHits w []) := by
  obtain ⟨p, cap, rfl, hcap, hbig, -, -⟩ := id h
  have hl9 : ls.length ≤ 9223372036854775807 := by omega
  have H := Lib.hid h
  clear h hcap hbig
  go_enter Tryd.func41, Tryd.ntmps41
  go_wp2_with fail
  refine (new_no n w (.inl hn)).mono ?_
  rintro e w1 ⟨rfl, rfl⟩
  go_wp2_with fail
  go_loopg [16] ls.length (fun q i wr => ∃ k : Nat, q = ls.length - k ∧ k ≤ ls.length ∧ i = .int .i64 k ∧ wr = w)
  case atStart => exact ⟨0, rfl, by omega, rfl, rfl⟩
  case round =>
    obtain ⟨k, rfl, hk, rfl, rfl⟩ := hrel
    by_cases hlt : k < ls.length
    · obtain ⟨b, off, q, qc, rfl, c0, -⟩ := H.out.elem hlt
      have A := Lib.hid (adds_nil (.slice q ls[k].length qc) wr)
      go_wp2_with fail
      refine A.out.mono ?_
      rintro e w4 ⟨rfl, rfl⟩
      go_wp2_with fail
      go_roundg (ls.length - (k + 1))
      case measure => omega
      case rel => exact ⟨k + 1, rfl, by omega, by go_num, rfl⟩
    · obtain rfl : k = ls.length := by omega
      have HC := Lib.hid (hits_nil wr)
      go_wp2_with fail
      refine HC.out.mono ?_
      rintro e w9 ⟨v9, rs9, rfl, ho9, hh9, hb9⟩
      have N9 := Lib.hid (HitsF.of_own (F := fun k => wr.heap.size ≤ k ∧ k < w9.heap.size) ho9 (fun b hb => ho9.lt b hb) hh9.rows)
      have B9 := Lib.hid hb9
      clear ho9 hh9 hb9
      go_wp2_with fail
      go_ret
      exact ⟨_, rfl, N9.out, B9.out⟩

end Go.Proofs.YtfmlhdikagogcaaDoor

namespace Go.Proofs.YtfmlhdikagogcaaDoor
open Go.RowKit
set_option maxRecDepth 20000

theorem rowLs : RowTy Tryd.prog 22 35 1 24 (.slice none 0 0) := ⟨Tryd.underlying22, by kernel_rfl, rfl, by decide⟩

theorem told_look {w : World} {R : Nat → Prop} {L : List (Int × Value)} {t : List (Int × List Hz)} (h : ToldF w R L t) (p : Int) : ∃ q c, (getK L p).getD (.slice none 0 0) = .slice q (toldOf t p).length c ∧ HitsF w R (.slice q (toldOf t p).length c) (toldOf t p) := by
  rcases told_get h p with ⟨h1, h2⟩ | ⟨-, v, x, h2, -, -, h5, h6⟩
  · have : t.find? (fun x => x.1 == p) = none := by
      rw [List.find?_eq_none]
      intro x hx
      have := List.any_eq_false.1 h1 x hx
      simpa using this
    unfold toldOf
    rw [h2, this]
    exact ⟨none, 0, rfl, HitsF.nil _ _⟩
  · unfold toldOf
    rw [h2, h5]
    obtain ⟨q, c, rfl, -⟩ := id h6
    exact ⟨q, c, rfl, h6⟩

theorem ListsF.of_own {w w' : World} {F G : Nat → Prop} {B e n : Nat} {v : Value} {us : List Value} {ls : List (List Hz)} (ho : w'.ownsRow B e 1 v n us) (hl : us.length = ls.length) (hv : ∀ b, v.ownBlock = some b → G b) (hF : ∀ k, F k → G k) (hb : Below w.heap.size w w')
    (h : ∀ i (h1 : i < us.length) (h2 : i < ls.length), HitsF w F us[i] ls[i]) : ListsF w' G v ls := by
  have hn : n = ls.length := by have := ho.1; omega
  subst hn
  obtain ⟨q, m, c, rfl⟩ := own_form ho
  obtain ⟨h1, ⟨h2, h3⟩ | ⟨g, cap, cur, hvv, hbb, hh, hn, hc, hs, ht⟩⟩ := id ho
  · cases h2
    exact ⟨Option.none, 0, by rw [h3], by omega, by omega, fun _ => rfl, fun i hi => absurd hi (by omega)⟩
  · obtain ⟨rfl, rfl, rfl⟩ := Value.slice.inj hvv
    refine ⟨_, _, rfl, hn, hc, fun e => (by cases e), fun i hi => ?_⟩
    have hiu : i < us.length := by omega
    obtain ⟨b, e1, -, c0⟩ := row_elem ho (i := i) hiu
    cases e1
    exact ⟨g, 0, us[i], rfl, hv g rfl, by simpa using c0, ((h i hiu hi).below hb).mono hF⟩

theorem drop_told (g : Gz) (k : Nat) (q : Qs) (t : List (Int × List Hz)) : dropZ (toldZ g k q t) k = dropZ g k := by
  unfold dropZ toldZ
  simp only [List.eraseIdx_set_eq]

/-- what was told is small -/
theorem told_small {g : Gz} (hok : GOk g) {k : Nat} (hk : k < g.l.length) {frm : Int} {n : Nt} (ho : oddB frm n 10 = false) : ∀ p, (toldOf (g.l[k].told ++ [(frm, n.hits)]) p).length ≤ 1000000 ∧ ∀ h ∈ toldOf (g.l[k].told ++ [(frm, n.hits)]) p, h.vec.length ≤ 1000000 := by
  have hs := right_seen (n := n) (by unfold oddB at ho; simp at ho; exact ho.1.1.2) (by unfold oddB at ho; simp at ho; exact ho.1.1.1)
  have hall : ∀ x ∈ g.l[k].told ++ [(frm, n.hits)], x.2.length ≤ 1000000 ∧ ∀ h ∈ x.2, h.vec.length ≤ 1000000 := by
    intro x hx
    rcases List.mem_append.1 hx with hx | hx
    · have := (hok.each _ (List.getElem_mem hk)).2.2.2.2.2 x hx
      exact ⟨by omega, fun h hh => by have := this.2 h hh; omega⟩
    · rw [List.mem_singleton.1 hx]
      refine ⟨by have := hs.1; show n.hits.length ≤ _; omega, fun h hh => ?_⟩
      have := hs.2.1 h hh
      unfold badHit rightB at this
      simp at this
      omega
  intro p
  unfold toldOf
  cases e : (g.l[k].told ++ [(frm, n.hits)]).find? (fun x => x.1 == p) with
  | none => exact ⟨by simp, fun h hh => absurd hh (by simp)⟩
  | some x => exact hall x (List.mem_of_find?_eq_some e)

end Go.Proofs.YtfmlhdikagogcaaDoor
