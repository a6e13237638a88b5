/-
  gather: what is left once a question has been put to the row.
-/
import Derived.Test.YtfmlhdikagogcaaDoorJ18
import Derived.Test.YtfmlhdikagogcaaDoorJ29
namespace Go.Proofs.YtfmlhdikagogcaaDoor
open Go.RowKit
set_option maxRecDepth 20000

/-- the gather has been changed, then mail was told -/
theorem GTold.after {w w1 w' : World} {B c : Nat} {F R E F' R' RR : Nat → Prop} {g' : Gz} {l : List (Int × Nt)} {r : Ending} (hG : GAt w1 B c F' R' g') (hm : Mod F w w1) (hF' : ∀ k, F' k → F k ∨ w.heap.size ≤ k) (hR' : ∀ k, R' k → R k ∨ E k ∨ w.heap.size ≤ k)
    (hRR : ∀ k, RR k → k < w1.heap.size) (h : NewMails w1 44 RR l r w') : GTold w B c F R E l g' r w' := by
  obtain ⟨v, rs, G, rfl, ho, hs, hm', hG', hb'⟩ := h
  refine ⟨v, rs, G, F', R', rfl, own_mono ho hm.size, hs, hm', fun k hk => ⟨(hG' k hk).1, (hG' k hk).2.1⟩, fun k hk hF => ?_, hG.below hb', hm.andBelow hb', hF', hR'⟩
  obtain ⟨lv, Q, hI⟩ := hG
  have h1 := (hI.low k hF).2
  have h2 := (ho.lt k hk).1
  omega

/-- what a new question's blocks are -/
def newR (lo hi mb : Nat) (k : Nat) : Prop := lo ≤ k ∧ k < hi ∧ k ≠ mb

theorem GIn.asked {w W13 W14 W15 : World} {B c g1 c1 : Nat} {F R : Nat → Prop} {g : Gz} {lv : Value} {Q : List Qp} {q : Qs} {x : Qp} {last : Int} {o : Obj} (h : GIn w B c F R g lv Q) (hB : B ≤ w.heap.size) (hM : Mod (fun k => k = c) w W13)
    (hc : W13.heap[c]? = some (.cells #[.int .i64 g.shards, .int .i64 g.dim, .int .u64 last, lv] 80 (0, 0)))
    (hq : QAt W13 (newR w.heap.size W13.heap.size x.mb) x.b x.mb q x.vp x.vo x.vv x.vh x.pv) (hmb : w.heap.size ≤ x.mb ∧ x.mb < W13.heap.size)
    (ho : W14.ownsRow B 82 1 (.slice (some ⟨g1, 0, none⟩) (g.l.length + 1) c1) (g.l.length + 1) (Q.map Qp.ptr ++ [x.ptr])) (hg : (W13.alloc o).grownBy W14 lv.ownBlock) (hgg : lv.ownBlock = some g1 ∨ g1 = W13.heap.size + 1) (hlt : g1 < W14.heap.size)
    (hW : W15 = W14.setCell ⟨c, 3, none⟩ (.slice (some ⟨g1, 0, none⟩) (g.l.length + 1) c1)) :
    (∃ F' R' : Nat → Prop, GAt W15 B c F' R' {g with last := last, l := g.l ++ [q]} ∧ (∀ k, F' k → F k ∨ w.heap.size ≤ k) ∧ (∀ k, R' k → R k ∨ w.heap.size ≤ k)) ∧ Mod F w W15 ∧ (∀ k, newR w.heap.size W13.heap.size x.mb k → k < W15.heap.size) ∧ QAt W15 (newR w.heap.size W13.heap.size x.mb) x.b x.mb q x.vp x.vo x.vv x.vh x.pv := by
  have hcl := (h.low c h.here).2
  have hs13 := hM.size
  have hs14 := hg.size
  rw [World.size_alloc] at hs14
  have hlvl : ∀ k, lv.ownBlock = some k → k < w.heap.size ∧ k ≠ c := fun k hk => ⟨(h.low k (h.lvF k hk).1).2, (h.lvF k hk).2⟩
  have hk14 : ∀ k, k < W13.heap.size → lv.ownBlock ≠ some k → W14.heap[k]? = W13.heap[k]? := fun k hk hne => by
    rw [hg.block k (by rw [World.size_alloc]; omega) (fun e => hne e.symm)]; exact Below.heap_alloc W13 o k hk
  have hsz : W15.heap.size = W14.heap.size := by rw [hW]; simp [World.setCell]
  have hk15 : ∀ k, k < W13.heap.size → lv.ownBlock ≠ some k → k ≠ c → W15.heap[k]? = W13.heap[k]? := fun k hk hne hkc => by
    rw [hW, Below.heap_setCell _ _ _ _ (fun e => hkc e)]; exact hk14 k hk hne
  have hc14 := (hk14 c (by omega) (fun e => (hlvl c e).2 rfl)).trans hc
  have hc15 : W15.heap[c]? = some (.cells #[.int .i64 g.shards, .int .i64 g.dim, .int .u64 last, .slice (some ⟨g1, 0, none⟩) (g.l.length + 1) c1] 80 (0, 0)) := by
    rw [hW]; exact set_block hc14 3 _
  have hMM : Mod (fun k => k = c ∨ lv.ownBlock = some k) w W15 := by
    refine ⟨?_, ?_, ?_, by omega, fun k hk hne => ?_⟩
    · rw [hW]; exact hg.os.trans hM.os
    · rw [hW]; exact hg.tape.trans hM.tape
    · rw [hW]; exact hg.output.trans hM.output
    · rw [hk15 k (by omega) (fun e => hne (.inr e)) (fun e => hne (.inl e))]
      exact hM.block k hk (fun e => hne (.inl e))
  have hRo : ∀ k, newR w.heap.size W13.heap.size x.mb k → W15.heap[k]? = W13.heap[k]? := fun k hk => hk15 k hk.2.1 (fun e => by have := (hlvl k e).1; have := hk.1; omega) (fun e => by have := hk.1; omega)
  have hq15 : QAt W15 (newR w.heap.size W13.heap.size x.mb) x.b x.mb q x.vp x.vo x.vv x.vh x.pv := hq.agree hRo (hk15 x.mb hmb.2 (fun e => by have := (hlvl _ e).1; have := hmb.1; omega) (fun e => by have := hmb.1; omega))
  have ho15 : W15.ownsRow B 82 1 (.slice (some ⟨g1, 0, none⟩) (g.l.length + 1) c1) (g.l.length + 1) (Q.map Qp.ptr ++ [x.ptr]) := by
    rw [hW]
    refine ho.kept (grownBy_setCells c [_] 3 W14) (.inr ?_)
    intro e
    have e2 : g1 = c := by simpa [Value.ownBlock] using e
    rcases hgg with e3 | e3
    · exact (hlvl g1 e3).2 e2
    · omega
  have hlt15 : ∀ k, newR w.heap.size W13.heap.size x.mb k → w.heap.size ≤ k ∧ k < W15.heap.size := fun k hk => ⟨hk.1, by have := hk.2.1; omega⟩
  have P := h.pushed (RQ := newR w.heap.size W13.heap.size x.mb) hB hMM hc15 ho15 (fun k hk => by
    have e2 : g1 = k := by simpa [Value.ownBlock] using hk
    subst e2
    rcases hgg with e3 | e3
    · exact .inl e3
    · exact .inr ⟨by omega, fun e => by have := e.2.1; omega, by have := hmb.2; omega⟩) hq15 hlt15 ⟨hmb.1, by have := hmb.2; omega, fun e => e.2.2 rfl⟩
  refine ⟨⟨_, _, P.1, fun k hk => ?_, fun k hk => ?_⟩, P.2, fun k hk => (hlt15 k hk).2, hq15⟩
  · rcases hk with hk | rfl | hk
    · exact .inl hk
    · exact .inr hmb.1
    · have e2 : g1 = k := by simpa [Value.ownBlock] using hk
      subst e2
      rcases hgg with e3 | e3
      · exact .inl (h.lvF _ e3).1
      · exact .inr (by omega)
  · exact hk.imp id (fun h => h.1)

theorem rowQ : RowTy Tryd.prog 78 82 1 8 (.pointer none) := ⟨Tryd.underlying78, by kernel_rfl, rfl, by decide⟩
theorem rowI64 : RowTy Tryd.prog 33 3 1 8 (.int .i64 0) := ⟨Tryd.underlying33, by kernel_rfl, rfl, by decide⟩

theorem grownBy_of_mod {c : Nat} {w w' : World} (h : Mod (fun k => k = c) w w') : w.grownBy w' (some c) := ⟨h.os, h.tape, h.output, h.size, fun k hk hne => h.block k hk (fun e => hne (by rw [e]))⟩

/-- a new question -/
def madeQ (n : Nt) (frm stamp mark L : Int) (ps : List Int) : Qs := ⟨{n with kind := 9, stamp := stamp, mark := mark, query := L}, frm, n.query, ps, []⟩

theorem QAt.made {w w0 : World} {R E : Nat → Prop} {bq mb q0 q1 q2 q3 k7 : Nat} {p0 p1 p2 p3 p7 : Option Addr} {n : Nt} {frm stamp mark L : Int} {ps : List Int} {pv : Value} {t : TypeId} {cs : Array Value}
    (hY : w.heap[bq]? = some (.cells cs t (0, 0)))
    (hcs : cs = #[.int .u8 9, .int .u64 n.txn, .int .u64 n.batch, .int .u64 stamp, .int .u64 n.after, .int .u64 mark, .int .u64 L, .int .u64 n.id, .int .i64 n.k, .int .i64 n.ef, .int .i64 n.code, .int .i64 n.who, .slice p0 n.parts.length q0, .slice p1 n.ops.length q1, .slice p7 n.vec.length k7, .slice p3 n.hits.length q3, .int .i64 frm, .int .u64 n.query, pv, .map (some mb)])
    (hb : R bq) (h0 : NoteV w0 E n (.slice p0 n.parts.length q0) (.slice p1 n.ops.length q1) (.slice p2 n.vec.length q2) (.slice p3 n.hits.length q3)) (he : n.parts = [] ∧ n.ops = [] ∧ n.hits = [])
    (hv : Nums w .i32 (.slice p7 n.vec.length k7) n.vec) (hvR : ∀ k, (Value.slice p7 n.vec.length k7).ownBlock = some k → R k) (hp : Nums w .i64 pv ps) (hpR : ∀ k, pv.ownBlock = some k → R k) (hm : MapAt w (Value.int .i64) mb []) :
    QAt w R bq mb (madeQ n frm stamp mark L ps) (.slice p0 n.parts.length q0) (.slice p1 n.ops.length q1) (.slice p7 n.vec.length k7) (.slice p3 n.hits.length q3) pv := by
  subst hcs
  have hN : NoteM w0 (fun _ => True) n (.slice p0 n.parts.length q0) (.slice p1 n.ops.length q1) (.slice p2 n.vec.length q2) (.slice p3 n.hits.length q3) :=
    ⟨⟨h0.parts, h0.ops.mono (fun _ _ => trivial), h0.vec, h0.hits.mono (fun _ _ => trivial)⟩, fun _ _ _ => trivial, fun _ _ _ => trivial⟩
  have hN2 := (hN.swap he hv).mono hvR
  refine ⟨fun j u hj => ?_, ⟨_, _, hY⟩, hb, ?_, hp, fun _ k hk => hpR k hk, he, [], hm, rfl, fun i h => absurd h (by simp)⟩
  · rw [cells_get hY j, ← Array.getElem?_toList]; exact hj
  · exact ⟨⟨hN2.read.parts, hN2.read.ops, hN2.read.vec, hN2.read.hits⟩, hN2.parts, hN2.vec⟩

/-- the shards from the first on -/
def upTo (k : Nat) : List Int := (List.range k).map fun (p : Nat) => (p : Int) + 1

theorem upTo_length (k : Nat) : (upTo k).length = k := by simp [upTo]

theorem upTo_succ (k : Nat) : upTo (k + 1) = upTo k ++ [(k : Int) + 1] := by simp [upTo, List.range_succ]

/-- the parts of a new question, while they are put -/
structure PartsAt (W wr : World) (bq k : Nat) (cs : Array Value) (t : TypeId) (pv : Value) : Prop where
  mod : Mod (fun j => j = bq) W wr
  blk : wr.heap[bq]? = some (.cells (cs.setIfInBounds 18 pv) t (0, 0))
  own : wr.ownsRow W.heap.size 3 1 pv k ((upTo k).map (Value.int .i64))

theorem PartsAt.start {W : World} {bq : Nat} {cs : Array Value} {t : TypeId} (h : W.heap[bq]? = some (.cells cs t (0, 0))) (hc : cs.setIfInBounds 18 (.slice none 0 0) = cs) : PartsAt W W bq 0 cs t (.slice none 0 0) :=
  ⟨Mod.refl _ _, by rw [hc]; exact h, World.ownsRow_nil _ _ _ _⟩

theorem PartsAt.step {W wr w5 : World} {bq k : Nat} {cs : Array Value} {t : TypeId} {pv pv' : Value} {o : Obj} (h : PartsAt W wr bq k cs t pv) (hbq : bq < W.heap.size) (hg : (wr.alloc o).grownBy w5 pv.ownBlock)
    (ho : w5.ownsRow W.heap.size 3 1 pv' (k + 1) ((upTo k).map (Value.int .i64) ++ [.int .i64 ((k : Int) + 1)])) : PartsAt W (w5.setCell ⟨bq, 18, none⟩ pv') bq (k + 1) cs t pv' := by
  have hs := h.mod.size
  have hne : ∀ j, pv.ownBlock = some j → W.heap.size ≤ j := fun j e => (h.own.lt j e).1
  have hb : w5.heap[bq]? = wr.heap[bq]? := by
    rw [hg.block bq (by rw [World.size_alloc]; omega) (fun e => by have := hne bq e.symm; omega)]
    exact Below.heap_alloc wr o bq (by omega)
  refine ⟨?_, ?_, ?_⟩
  · exact ((h.mod.andBelow ((Below.refl _ _).alloc (Nat.le_refl _) o)).grown hg (fun j e => .inr (hne j e))).setCell (.inl rfl) _
  · have := set_block (hb.trans h.blk) 18 pv'
    rw [this]
    simp
  · rw [upTo_succ, List.map_append]
    exact ho.kept (grownBy_setCells bq [_] 18 w5) (.inr (fun e => by have := (ho.lt _ e).1; omega))

end Go.Proofs.YtfmlhdikagogcaaDoor
