/-
  walk's laws: what is laid; both walks over it.
  walk's laws: the document's example.
  A region that draws its order, its operations behind a name: each step's goal is small.
  graph's laws: one call on both.
  graph's laws: the document's example.
  An argument that is a script of calls on a graph.
  graph's laws: what a script does to both graphs.
  graph's law: GraphBoth.
  graph's law: GraphNeeds.
  graph's law: GraphJoins (plain part).
-/
import Derived.Test.YtjnkiloomdeljaaJ47
import Derived.Test.YtjnkiloomdeljaaJ02
import Derived.Test.YtjnkiloomdeljaaJ46
import Derived.Test.YtjnkiloomdeljaaJ14
import Derived.Deep.Strs
namespace Go.Proofs.Ytjnkiloomdeljaa
open Go.RowKit Go.ChangeMaps

structure LayOk (N : List Int) (L : List Hz) : Prop where
  bare : ∀ y ∈ L, y.vec = []
  few : L.length ≤ 30 ∧ N.length ≤ 30
  same : ∀ x, x ∈ N ↔ x ∈ L.map (·.id)
  once : (L.map (·.id)).Nodup

theorem layS_ok {s : List Int × List Hz} {h : Hz} (hs : (∀ y ∈ s.2, y.vec = []) ∧ (∀ x, x ∈ s.1 ↔ x ∈ s.2.map (·.id)) ∧ (s.2.map (·.id)).Nodup) :
    (∀ y ∈ (layS s h).2, y.vec = []) ∧ (∀ x, x ∈ (layS s h).1 ↔ x ∈ (layS s h).2.map (·.id)) ∧ ((layS s h).2.map (·.id)).Nodup := by
  obtain ⟨h1, h2, h3⟩ := hs
  unfold layS
  split
  · exact ⟨h1, h2, h3⟩
  · rename_i hn
    refine ⟨fun y hy => ?_, fun x => ?_, ?_⟩
    · rcases List.mem_append.1 hy with hy | hy
      · exact h1 y hy
      · rw [List.mem_singleton.1 hy]; rfl
    · simp only [mem_putZ, List.map_append, List.mem_append, List.map_cons, List.map_nil, List.mem_singleton, h2]
      simp only [hitK]
      constructor
      · rintro (e | e)
        · exact .inr e
        · exact .inl e
      · rintro (e | e)
        · exact .inr e
        · exact .inl e
    · rw [List.map_append, List.nodup_append]
      refine ⟨h3, by simp, fun a ha b hb e => ?_⟩
      simp only [List.map_cons, List.map_nil, List.mem_singleton, hitK] at hb
      exact hn ((h2 _).2 (by rw [← hb, ← e]; exact ha))

theorem layN_ok (l : List Hz) : LayOk (layN l).1 (layN l).2 := by
  have h : ∀ (l : List Hz) (s : List Int × List Hz), ((∀ y ∈ s.2, y.vec = []) ∧ (∀ x, x ∈ s.1 ↔ x ∈ s.2.map (·.id)) ∧ (s.2.map (·.id)).Nodup) → ((∀ y ∈ (l.foldl layS s).2, y.vec = []) ∧ (∀ x, x ∈ (l.foldl layS s).1 ↔ x ∈ (l.foldl layS s).2.map (·.id)) ∧ ((l.foldl layS s).2.map (·.id)).Nodup) := by
    intro l
    induction l with
    | nil => intro s h; exact h
    | cons a l ih => intro s h; exact ih _ (layS_ok h)
  have h1 := h (l.take 30) ([], []) ⟨by simp, by simp, by simp⟩
  have h2 := layN_le l 30
  exact ⟨h1.1, ⟨h2.2, h2.1⟩, h1.2.1, h1.2.2⟩

theorem farL_mem {L : List Hz} {k d : Int} (h : farL L k = some d) : ∃ y ∈ L, y.id = k ∧ y.dist = d := by
  unfold farL at h
  rw [Option.map_eq_some_iff] at h
  obtain ⟨y, h1, rfl⟩ := h
  exact ⟨y, List.mem_of_find?_eq_some h1, by simpa using List.find?_some h1, rfl⟩

theorem farL_key {L : List Hz} {k d : Int} (h : farL L k = some d) : k ∈ L.map (·.id) := by
  obtain ⟨y, hy, rfl, -⟩ := farL_mem h
  exact List.mem_map_of_mem (f := fun y : Hz => y.id) hy

theorem farL_of {L : List Hz} (ho : (L.map (·.id)).Nodup) {y : Hz} (hy : y ∈ L) : farL L y.id = some y.dist := by
  unfold farL
  have : L.find? (fun h => decide (h.id = y.id)) = some y := by
    induction L with
    | nil => cases hy
    | cons a L ih =>
      rw [List.map_cons, List.nodup_cons] at ho
      rcases List.mem_cons.1 hy with rfl | hy
      · rw [List.find?_cons_of_pos (by simp)]
      · rw [List.find?_cons_of_neg, ih ho.2 hy]
        simp only [decide_eq_true_eq]
        intro e
        exact ho.1 (e ▸ List.mem_map_of_mem (f := fun y : Hz => y.id) hy)
  rw [this]; rfl

/-- the best of a walk, and how many it went to -/
def resW (L : List Hz) (E : Eg) (most : Nat) (ks : List Int) : List Hz × Nat :=
  goW (farL L) (fun k => nearD E k false) most (2 * (L.map fun y : Hz => y.id).length) (lookW (farL L) most true ⟨[], [], []⟩ ks)

section
variable {w0 w : World} {f x p m c : Nat} {Q : Gr} {N : List Int} {E : Eg} {lv : Value} {L : List Hz}

theorem Fld.walks (h : Fld w0 w f x p m c Q N E lv L) (ok : LayOk N L) (most : Nat) (hm : 1 ≤ most ∧ most ≤ 256) (kv : Value) (ks : List Int) (hk : Nums w .u64 kv ks) (hk0 : ∀ k, kv.ownBlock = some k → 0 < ks.length → k < w.heap.size) :
    Calls Try.prog 10 #[.iface 26 (.pointer (some ⟨f, 0, none⟩)), .int .i64 most, kv] w (RunTells w (resW L E most ks).1 (resW L E most ks).2) :=
  wRun w _ _ _ _ _ _ _ _ (h.space ok.bare (by have := ok.few; omega)) (L.map fun y : Hz => y.id) (fun k d => farL_key) (by have := ok.few; rw [List.length_map]; omega) most hm kv ks hk hk0

theorem Fld.refs (h : Fld w0 w f x p m c Q N E lv L) (ok : LayOk N L) (hE : E.length ≤ 400000) (most : Nat) (hm : 1 ≤ most ∧ most ≤ 256) (kv : Value) (ks : List Int) (hk : Nums w .u64 kv ks) :
    Calls Try.prog 11 #[.pointer (some ⟨x, 0, none⟩), .int .i64 most, kv] w (RefTells w (resW L E most ks).1 (resW L E most ks).2) :=
  wRef w x (.pointer (some ⟨c, 0, none⟩)) (cellsB h.xcell 0) _ _ (fun W hW k => refFar W x lv _ L k (cellsB (h.below hW).xcell 1) ((h.below hW).hits ok.bare))
    (fun W hW k => by obtain ⟨vn, ve, hd⟩ := (h.below hW).gs.d; exact dNear W _ c N E vn ve k false hd hE) (L.map fun y : Hz => y.id) (fun k d => farL_key) (by have := ok.few; rw [List.length_map]; omega) most hm kv ks hk
end

end Go.Proofs.Ytjnkiloomdeljaa

namespace Go.Proofs.Ytjnkiloomdeljaa
open Go.RowKit Go.ChangeMaps

theorem RunTells.got {w0 w' : World} {L : List Hz} {n : Nat} {e : Ending} (h : RunTells w0 L n e w') : ∃ v, e = .returned (.tuple #[v, .int .i64 n]) ∧ HitsF w' (fun k => w0.heap.size ≤ k ∧ k < w'.heap.size) v L ∧ Below w0.heap.size w0 w' := by
  obtain ⟨v, rs, rfl, ho, hh, hb⟩ := h
  exact ⟨v, rfl, HitsF.of_own ho (fun b hb => ho.lt b hb) hh.rows, hb⟩

def exL : List Hz := [⟨1, 9, []⟩, ⟨2, 4, []⟩, ⟨3, 1, []⟩]
def exE : List (Int × Int) := [(1, 2), (2, 3)]

theorem ex_walk : resW (layN exL).2 (layE (layN exL).1 exE) 1 [1] = ([hitK 3 1], 3) := by decide +kernel

set_option maxRecDepth 100000 in
set_option maxHeartbeats 4000000 in
theorem awake10 (w : World) : Calls Try.prog 8 #[] w fun e w' => e = .returned (.bool true) ∧ Below w.heap.size w w' := by
  obtain ⟨W1, hW1⟩ : ∃ W1, W1 = (w.alloc (.cells #[.int .u64 1, .int .u64 9, .slice none 0 0, .int .u64 2, .int .u64 4, .slice none 0 0, .int .u64 3, .int .u64 1, .slice none 0 0] 43)).alloc (.cells #[.int .u64 1, .int .u64 2, .int .u64 2, .int .u64 3] 56) := ⟨_, rfl⟩
  have hh := heapTwo w (.cells #[.int .u64 1, .int .u64 9, .slice none 0 0, .int .u64 2, .int .u64 4, .slice none 0 0, .int .u64 3, .int .u64 1, .slice none 0 0] 43) (.cells #[.int .u64 1, .int .u64 2, .int .u64 2, .int .u64 3] 56)
  have hb1 : Below w.heap.size w W1 := by rw [hW1]; exact ((Below.refl _ w).alloc (Nat.le_refl _) _).alloc (by simp) _
  rw [← hW1] at hh
  have hH : HitsF W1 (fun k => k = w.heap.size) (.slice (some ⟨w.heap.size, 0, none⟩) 3 3) exL := by
    refine ⟨some ⟨w.heap.size, 0, none⟩, 3, rfl, by decide, by decide, by simp, fun i hi => ⟨w.heap.size, 0, .slice none 0 0, rfl, rfl, ?_⟩⟩
    have hi3 : i < 3 := hi
    match i, hi3 with
    | 0, _ => exact ⟨cellsB hh.1 0, cellsB hh.1 1, cellsB hh.1 2, nums_none _, fun h => absurd h (by simp [exL])⟩
    | 1, _ => exact ⟨cellsB hh.1 3, cellsB hh.1 4, cellsB hh.1 5, nums_none _, fun h => absurd h (by simp [exL])⟩
    | 2, _ => exact ⟨cellsB hh.1 6, cellsB hh.1 7, cellsB hh.1 8, nums_none _, fun h => absurd h (by simp [exL])⟩
  have hP : PairsA W1 (.slice (some ⟨w.heap.size + 1, 0, none⟩) 2 2) exE := by
    refine ⟨some ⟨w.heap.size + 1, 0, none⟩, 2, rfl, by decide, fun i hi => ⟨w.heap.size + 1, 0, rfl, ?_⟩⟩
    have hi2 : i < 2 := hi
    match i, hi2 with
    | 0, _ => exact ⟨cellsB hh.2 0, cellsB hh.2 1⟩
    | 1, _ => exact ⟨cellsB hh.2 2, cellsB hh.2 3⟩
  have cL := Lib.hid (lawLay W1 _ exL _ hH exE _ hP)
  have OK := Lib.hid (layN_ok exL)
  have EX := Lib.hid ex_walk
  have HW := Lib.hid hW1
  have B1 := Lib.hid hb1
  clear hh hH hP hW1 hb1
  go_enter Try.func8, Try.ntmps8
  go_wp2_with fail
  rw [← HW.out]
  with_reducible refine cL.out.mono ?_
  rintro e w2 ⟨f, x, p, m, c, Q, lv, rfl, hF⟩
  obtain ⟨W3, hW3⟩ : ∃ W3, W3 = w2.alloc (.cells #[.int .u64 1] 37) := ⟨_, rfl⟩
  have hb3 : Below w2.heap.size w2 W3 := by rw [hW3]; exact (Below.refl _ _).alloc (Nat.le_refl _) _
  have y3 : W3.heap[w2.heap.size]? = some (.cells #[.int .u64 1] 37 (0, 0)) := by rw [hW3]; exact heap_alloc_new _ _
  have F3 := Lib.hid (hF.below hb3)
  have cW := Lib.hid (F3.out.walks OK.out 1 (by decide) (.slice (some ⟨w2.heap.size, 0, none⟩) 1 1) [1] (Nums.mk (xs := [1]) (by simp) (by simp) (by simp) (fun i hi => ⟨w2.heap.size, 0, rfl, by
    have hi1 : i < 1 := hi
    obtain rfl : i = 0 := by omega
    exact cellsB y3 0⟩)) (fun k hk _ => by simp only [Value.ownBlock, Option.some.injEq] at hk; rw [← hk]; exact lt_block y3))
  rw [EX.out, show ((1 : Nat) : Int) = 1 from rfl] at cW
  have HW3 := Lib.hid hW3
  clear hF hb3 y3 hW3
  go_wp2_with fail
  rw [← HW3.out]
  with_reducible refine cW.out.mono ?_
  intro e w4 hT
  obtain ⟨v4, rfl, hG, hb4⟩ := hT.got
  obtain ⟨p4, c4, hv4, -, -, -, hel⟩ := hG
  replace hv4 : v4 = .slice p4 1 c4 := hv4
  subst hv4
  obtain ⟨b4, o4, u4, rfl, -, e0, -⟩ := hel 0 (by decide)
  replace e0 : w4.cell? ⟨b4, o4, none⟩ = some (.int .u64 3) := e0
  have B4 := Lib.hid (show Below w.heap.size w w4 from B1.out.trans ((F3.out.old.mono B1.out.size).trans (hb4.mono (Nat.le_trans B1.out.size F3.out.old.size))))
  clear hel hT
  go_wp2_with fail
  go_ret
  exact ⟨rfl, B4.out⟩

end Go.Proofs.Ytjnkiloomdeljaa

namespace Go.Proofs.Ytjnkiloomdeljaa
open Go.RowKit

section
variable {P : Program} {ops O : Array Oper} {Q : Exit → Act → World → Prop} {md : Region.Mode} {S : World → Prop}

/-- an equation that no tactic opens -/
structure OpsAre (O ops : Array Oper) : Prop where
  eq : O = ops

theorem tkNH (i : Nat) {oi : Oper} {fuel : Nat} {listed : Array Bool} {a : Act} {w : World} (hO : OpsAre O ops) (hS : S w) (hi : ops.toList[i]? = some oi) (hQ : ∀ c a w, Q (.panic c) (a.put oi.dst undef) w → Q (.panic c) a w)
    (hc : canTake md ops listed i = true) (hw : Region.wanted oi (yielded ops a.tmps) = false)
    (h : wpAnyH P md O Q S fuel (listed.setIfInBounds i true) (a.put oi.dst undef) w) : wpAnyH P md O Q S (fuel + 1) listed a w := by
  obtain ⟨rfl⟩ := hO
  exact tkN i hS hi hQ hc hw h

theorem kNH (i : Nat) {oi : Oper} {fuel : Nat} {listed : Array Bool} {a : Act} {w : World} (hO : OpsAre O ops) (hS : S w) (h : wpAnyH P md O Q S fuel (listed.setIfInBounds i true) (a.put oi.dst undef) w)
    (hi : ops.toList[i]? = some oi := by exact rfl) (hQ : ∀ c a w, Q (.panic c) (a.put oi.dst undef) w → Q (.panic c) a w := by exact fun _ _ _ h => h) (hc : canTake md ops listed i = true := by decide +kernel) (hw : Region.wanted oi (yielded ops a.tmps) = false := by rfl) : wpAnyH P md O Q S (fuel + 1) listed a w :=
  tkNH i hO hS hi hQ hc hw h

theorem tkYH (i : Nat) {oi : Oper} {v : Value} {fuel : Nat} {listed : Array Bool} {a : Act} {w : World} (hO : OpsAre O ops) (hS : S w) (hi : ops.toList[i]? = some oi) (hQ : ∀ c a w, Q (.panic c) (a.put oi.dst v) w → Q (.panic c) a w)
    (hc : canTake md ops listed i = true) (hw : Region.wanted oi (yielded ops a.tmps) = true) (hy : ∀ w, S w → (execOp a.eval oi).run P w = .ok (.value v) w)
    (h : wpAnyH P md O Q S fuel (listed.setIfInBounds i true) (a.put oi.dst v) w) : wpAnyH P md O Q S (fuel + 1) listed a w := by
  obtain ⟨rfl⟩ := hO
  exact tkY i hS hi hQ hc hw hy h

theorem kYH (i : Nat) {oi : Oper} {v : Value} {fuel : Nat} {listed : Array Bool} {a : Act} {w : World} (hO : OpsAre O ops) (hS : S w) (h : wpAnyH P md O Q S fuel (listed.setIfInBounds i true) (a.put oi.dst v) w)
    (hi : ops.toList[i]? = some oi := by exact rfl) (hQ : ∀ c a w, Q (.panic c) (a.put oi.dst v) w → Q (.panic c) a w := by exact fun _ _ _ h => h) (hc : canTake md ops listed i = true := by decide +kernel) (hw : Region.wanted oi (yielded ops a.tmps) = true := by rfl) (hy : ∀ w, S w → (execOp a.eval oi).run P w = .ok (.value v) w := by intro w hS; (try dsimp only at hS); go_simp; try with_reducible rfl) : wpAnyH P md O Q S (fuel + 1) listed a w :=
  tkYH i hO hS hi hQ hc hw hy h

theorem spkH (i : Nat) {oi : Oper} {fuel : Nat} {listed : Array Bool} {a : Act} {w : World} (hO : OpsAre O ops) (hi : ops.toList[i]? = some oi)
    (hr : Region.ready md ops listed = [i]) (hw : Region.wanted oi (yielded ops a.tmps) = true)
    (h : ∀ K' : Act → World → Prop, Shut (∀ a w, S w → (S w → wpAnyH P md O Q S fuel (listed.setIfInBounds i true) a w) → K' a w) → oi.wp P a w K' Q) : wpAnyH P md O Q S (fuel + 1) listed a w := by
  obtain ⟨rfl⟩ := hO
  exact spk i hi hr hw h

theorem spBH (i j : Nat) {oi oj : Oper} {fuel : Nat} {listed : Array Bool} {a : Act} {w : World} (hO : OpsAre O ops) (hi : ops.toList[i]? = some oi) (hj : ops.toList[j]? = some oj)
    (hr : Region.ready md ops listed = [i, j]) (hwi : Region.wanted oi (yielded ops a.tmps) = true) (hwj : Region.wanted oj (yielded ops a.tmps) = true)
    (h : ∀ K' : Act → World → Prop, Shut (∀ a w, S w → (S w → wpAnyH P md O Q S fuel (listed.setIfInBounds i true) a w) → K' a w) → oi.wp P a w K' Q)
    (h' : ∀ K' : Act → World → Prop, Shut (∀ a w, S w → (S w → wpAnyH P md O Q S fuel (listed.setIfInBounds j true) a w) → K' a w) → oj.wp P a w K' Q) : wpAnyH P md O Q S (fuel + 1) listed a w := by
  obtain ⟨rfl⟩ := hO
  exact spB i j hi hj hr hwi hwj h h'

theorem doneH {fuel : Nat} {listed : Array Bool} {a : Act} {w : World} (hO : OpsAre O ops) (hr : Region.ready md ops listed = []) (h : Q .normal a w) : wpAnyH P md O Q S fuel listed a w := by
  obtain ⟨rfl⟩ := hO
  exact wpAnyH_done hr h _

theorem region_goH {id : Nat} {a : Act} {w : World} (S : World → Prop) (n : Nat) (hm : P.follows .mixedOrders = true) (hn : ops.size = n) (hS : S w.drew)
    (h : ∀ O, OpsAre O ops → S w.drew → wpAnyH P .any O Q S n (Array.replicate n false) a w.drew) : (Code.region id ops true).wp P Q a w := by
  subst hn
  exact region_go S hm hS (h ops ⟨rfl⟩)
end

end Go.Proofs.Ytjnkiloomdeljaa

namespace Go.Proofs.Ytjnkiloomdeljaa
open Go.RowKit Go.ChangeMaps


theorem Turn.first {w W0 w' : World} {B : Nat} (hb : Below w.heap.size w W0) (hm : Mod (Turn W0 B) W0 w') (hB : B ≤ w.heap.size) : Mod (Turn w B) w w' := by
  refine (Mod.of_below hb (F := Turn w B)).trans hm fun k hk ht => ⟨ht.1, ?_⟩
  have e := hb.block k hk
  rcases ht.2 with ⟨es, c, h⟩ | ⟨cs, fr, h⟩ | ⟨cs, fr, h⟩
  · exact .inl ⟨es, c, by rw [← e]; exact h⟩
  · exact .inr (.inl ⟨cs, fr, by rw [← e]; exact h⟩)
  · exact .inr (.inr ⟨cs, fr, by rw [← e]; exact h⟩)

end Go.Proofs.Ytjnkiloomdeljaa

namespace Go.Proofs.Ytjnkiloomdeljaa
open Go.RowKit Go.ChangeMaps

theorem ex_lists : bindD [1, 2, 3] [] 1 2 = (0, [(1, 2, true)]) ∧ linkD [1, 2, 3] [(1, 2, true)] 2 3 = (0, [(1, 2, true), (2, 3, false)]) ∧ reachD [1, 2, 3] [(1, 2, true), (2, 3, false)] 1 false = [1, 2, 3] ∧
    cutD [1, 2, 3] [(1, 2, true), (2, 3, false)] 2 3 = (0, [(1, 2, true)]) ∧ cutD [1, 2, 3] [(1, 2, true)] 1 2 = (10, [(1, 2, true)]) ∧ reachD [1, 2, 3] [(1, 2, true)] 1 false = [1, 2] := by decide +kernel

end Go.Proofs.Ytjnkiloomdeljaa

namespace Go.Proofs.Ytjnkiloomdeljaa
open Go.ChangeShapes Go.WideShapes Go.ChangeAt Go.RowKit Go.Deep

/-- a slice of calls (what to do; two numbers) reads so -/
def ScriptO (w : World) (v : Value) (l : List (Int × Int × Int)) : Prop :=
  ∃ p cap, v = .slice p l.length cap ∧ l.length ≤ cap ∧ cap ≤ 9223372036854775807 ∧
    ∀ i (hi : i < l.length), ∃ b off, p = some ⟨b, off, none⟩ ∧ w.cell? ⟨b, off + i * 3, none⟩ = some (.int .u8 l[i].1) ∧ w.cell? ⟨b, off + i * 3 + 1, none⟩ = some (.int .u64 l[i].2.1) ∧ w.cell? ⟨b, off + i * 3 + 2, none⟩ = some (.int .u64 l[i].2.2)

theorem ScriptO.below {w w' : World} {v : Value} {l : List (Int × Int × Int)} (h : ScriptO w v l) (hb : Below w.heap.size w w') : ScriptO w' v l := by
  obtain ⟨p, cap, hv, h1, h2, h3⟩ := h
  refine ⟨p, cap, hv, h1, h2, fun i hi => ?_⟩
  obtain ⟨b, off, hp, c0, c1, c2⟩ := h3 i hi
  exact ⟨b, off, hp, below_cells hb c0, below_cells hb c1, below_cells hb c2⟩

section
variable {H : Type} {enc : TypeId × Value → H} {W : World}

theorem cells_threeO {a : Addr} {cs : List Value} (h : W.cells? 0 a 3 = some cs) : ∃ c0 c1 c2, cs = [c0, c1, c2] ∧ W.cell? (a.add 0) = some c0 ∧ W.cell? (a.add 1) = some c1 ∧ W.cell? (a.add 2) = some c2 := by
  unfold World.cells? at h
  simp only [Nat.zero_le, if_true, List.range_succ, List.range_zero, List.nil_append, List.cons_append, List.mapM_cons, List.mapM_nil] at h
  cases h0 : W.cell? (a.add 0) with
  | none => rw [h0] at h; simp at h
  | some c0 =>
    cases h1 : W.cell? (a.add 1) with
    | none => rw [h0, h1] at h; simp at h
    | some c1 =>
      cases h2 : W.cell? (a.add 2) with
      | none => rw [h0, h1, h2] at h; simp at h
      | some c2 =>
        rw [h0, h1, h2] at h
        simp at h
        exact ⟨c0, c1, c2, h.symm, rfl, rfl, rfl⟩

end

end Go.Proofs.Ytjnkiloomdeljaa

namespace Go.Proofs.Ytjnkiloomdeljaa
open Go.RowKit Go.ChangeMaps

theorem doN_len (N : List Int) (a x : Int) : (doN N a x).length ≤ N.length + 1 := by
  unfold doN
  split
  · omega
  · split
    · omega
    · rw [putZ_length]; exact Nat.le_refl _

theorem bindD_len (N : List Int) (E : Eg) (x y : Int) : (bindD N E x y).2.length ≤ E.length + 1 := by
  unfold bindD
  split
  · simp
  · cases atE E x y with
    | none => simp
    | some i => simp only []; split <;> simp

theorem linkD_len (N : List Int) (E : Eg) (x y : Int) : (linkD N E x y).2.length ≤ E.length + 1 := by
  unfold linkD
  split
  · simp
  · cases atE E x y <;> simp

theorem cutD_len (N : List Int) (E : Eg) (x y : Int) : (cutD N E x y).2.length ≤ E.length := by
  unfold cutD
  split
  · simp
  · cases atE E x y with
    | none => simp
    | some i =>
      simp only []
      split
      · simp
      · rw [List.length_eraseIdx]; split <;> omega

theorem doE_len (N : List Int) (E : Eg) (a x y : Int) : (doE N E a x y).length ≤ E.length + 1 := by
  unfold doE
  split
  · exact bindD_len N E x y
  · split
    · exact linkD_len N E x y
    · split
      · have := cutD_len N E x y; omega
      · omega

theorem GS.start {B p m : Nat} {Q : Gr} {w : World} (h : GP B p m Q [] [] w) : GS B p m w.heap.size Q [] [] (w.alloc (.cells #[.slice none 0 0, .slice none 0 0] 60)) := by
  have hb : Below w.heap.size w (w.alloc (.cells #[.slice none 0 0, .slice none 0 0] 60)) := (Below.refl _ w).alloc (Nat.le_refl _) _
  exact ⟨h.g.kept fun k hk => hb.block k hk, ⟨.slice none 0 0, .slice none 0 0, ⟨heap_alloc_new _ _, ⟨rfl, .inl ⟨rfl, rfl⟩⟩, ⟨rfl, .inl ⟨rfl, rfl⟩⟩, h.big⟩⟩, h.rel, h.low, Nat.le_trans h.big hb.size⟩

theorem newNone (w : World) : Calls Try.prog 20 #[.slice none 0 0] w fun e w' => ∃ p m Q, e = .returned (.pointer (some ⟨p, 0, none⟩)) ∧ GP w.heap.size p m Q [] [] w' ∧ Below w.heap.size w w' :=
  GP.new w [] [] (.slice none 0 0) (Nums.mk (xs := []) (by simp) (by simp) (by simp) (by simp)) (fun h => absurd h (by simp)) (by simp) List.Pairwise.nil (fun _ => Iff.rfl)

end Go.Proofs.Ytjnkiloomdeljaa

namespace Go.Proofs.Ytjnkiloomdeljaa
open Go.RowKit Go.ChangeMaps

theorem near_back {N : List Int} {E : Eg} (h : Egs N E) {a b : Int} (hb : b ∈ nearD E a false) : a ∈ nearD E b false ∧ decide (b ∈ nearD E a true) = decide (a ∈ nearD E b true) ∧ (a == b) = false := by
  obtain ⟨v, hv, -⟩ := (mem_nearD h).1 hb
  refine ⟨(mem_nearD h).2 ⟨v, by rw [edgeD_comm]; exact hv, rfl⟩, ?_, ?_⟩
  · rw [decide_eq_decide, mem_nearD h, mem_nearD h, edgeD_comm]
  · obtain ⟨e, he, -, h1, h2⟩ := mem_adj (E := E) (needed := false) (a := a) (b := b) ⟨v, hv, rfl⟩
    have := (h.ends e he).1
    have hne : a ≠ b := by omega
    simpa using hne

theorem way_in {N : List Int} {E : Eg} (h : Egs N E) {needed : Bool} {a b : Int} (hw : Way (adj E needed) a b) (ha : a ∈ N) : b ∈ N := by
  induction hw with
  | here => exact ha
  | step _ hr _ =>
    obtain ⟨e, he, -, h1, h2⟩ := mem_adj hr
    rename_i b c _ _
    have hen := h.ends e he
    rcases Int.le_total b c with hb | hb
    · rw [Int.max_eq_right hb] at h2; rw [← h2]; exact hen.2.2
    · rw [Int.min_eq_right hb] at h1; rw [← h1]; exact hen.2.1

theorem mem_reachD {N : List Int} {E : Eg} (h : Egs N E) {needed : Bool} {a b : Int} : b ∈ reachD N E a needed ↔ a ∈ N ∧ Way (adj E needed) a b := by
  unfold reachD
  by_cases ha : a ∈ N
  · rw [if_pos ha, mem_reachN h needed ha]; simp [ha]
  · rw [if_neg ha]; simp [ha]

theorem reach_back {N : List Int} {E : Eg} (h : Egs N E) {needed : Bool} {a b : Int} (hb : b ∈ reachD N E a needed) : a ∈ reachD N E b needed := by
  obtain ⟨ha, hw⟩ := (mem_reachD h).1 hb
  exact (mem_reachD h).2 ⟨way_in h hw ha, hw.symm fun _ _ => adj_comm⟩

theorem NewL.nums {w w' : World} {l : List Int} {v : Value} (h : w'.ownsRow w.heap.size 37 1 v l.length (l.map (Value.int .u64))) : Nums w' .u64 v l := Nums.of_own h

/-- a cell of a row of numbers -/
theorem row_cell {w : World} {B n c : Nat} {p : Option Addr} {l : List Int} (h : w.ownsRow B 37 1 (.slice p n c) n (l.map (Value.int .u64))) {j : Nat} (hj : j < l.length) : ∃ g, p = some ⟨g, 0, none⟩ ∧ w.cell? ⟨g, j, none⟩ = some (.int .u64 l[j]) := by
  have hn : l.length = n := by simpa using h.1
  subst hn
  obtain ⟨g, cap', hve, -, hgl⟩ := h.form (by omega)
  obtain ⟨rfl, -, rfl⟩ := Value.slice.inj hve
  exact ⟨g, rfl, by rw [World.ownsRow.cellAt h j (by omega), List.getElem?_map, List.getElem?_eq_getElem hj]; rfl⟩

end Go.Proofs.Ytjnkiloomdeljaa

namespace Go.Proofs.Ytjnkiloomdeljaa
open Go.RowKit Go.ChangeMaps

theorem cut_needs {N : List Int} {E : Eg} {a b : Int} {e : Int × Int × Bool} (he : e ∈ E) (hn : e.2.2 = true) : e ∈ (cutD N E a b).2 := by
  unfold cutD
  split
  · exact he
  · cases atE E a b with
    | none => exact he
    | some i =>
      simp only []
      split
      · exact he
      · next h =>
        rcases Nat.lt_or_ge i E.length with hi | hi
        · rw [List.getElem?_eq_getElem hi] at h
          simp only [Option.map_some, Option.some.injEq] at h
          have hs : E = E.take i ++ E[i] :: E.drop (i + 1) := by rw [← List.drop_eq_getElem_cons hi, List.take_append_drop]
          rw [hs] at he
          rw [List.eraseIdx_eq_take_drop_succ, List.mem_append]
          rcases List.mem_append.1 he with h1 | h1
          · exact .inl h1
          · rcases List.mem_cons.1 h1 with h1 | h1
            · exact absurd (h1 ▸ hn) h
            · exact .inr h1
        · rw [List.eraseIdx_of_length_le hi]; exact he

theorem needs_way {N : List Int} {E E' : Eg} (h : Egs N E) (h' : Egs N E') (hsub : ∀ e ∈ E, e.2.2 = true → e ∈ E') {k n : Int} (hk : k ∈ N) (hn : n ∈ reachN E true k N.length) : n ∈ reachD N E' k false := by
  rw [mem_reachD h']
  refine ⟨hk, ((mem_reachN h true hk n).1 hn).mono fun a b hab => ?_⟩
  obtain ⟨e, he, hne, h1, h2⟩ := mem_adj hab
  have hnd : e.2.2 = true := by simpa using hne
  have := adj_mem h' (needed := false) (hsub e he hnd) rfl
  rcases Int.le_total a b with hb | hb
  · rw [Int.min_eq_left hb] at h1
    rw [Int.max_eq_right hb] at h2
    rwa [h1, h2] at this
  · rw [Int.min_eq_right hb] at h1
    rw [Int.max_eq_left hb] at h2
    rw [h1, h2] at this
    exact adj_comm this

/-- the program's graph has been cut since; the document's hasn't -/
structure GC (B p m c : Nat) (Q : Gr) (N : List Int) (E E' : Eg) (w : World) : Prop where
  g : GP B p m Q N E' w
  d : ∃ vn ve, DGr w B c N E vn ve
  egs : Egs N E
  sub : ∀ e ∈ E, e.2.2 = true → e ∈ E'

theorem GC.below {B p m c : Nat} {Q : Gr} {N : List Int} {E E' : Eg} {w w' : World} (h : GC B p m c Q N E E' w) (hb : Below w.heap.size w w') : GC B p m c Q N E E' w' := by
  obtain ⟨vn, ve, hd⟩ := h.d
  exact ⟨h.g.below hb, ⟨vn, ve, hd.below hb⟩, h.egs, h.sub⟩

end Go.Proofs.Ytjnkiloomdeljaa

namespace Go.Proofs.Ytjnkiloomdeljaa
open Go.RowKit Go.ChangeMaps

theorem adj_false {E : Eg} {x y : Int} : adj E false x y ↔ (edgeD E x y).isSome = true := by
  unfold adj
  cases edgeD E x y <;> simp

theorem bind_adj {N : List Int} {E : Eg} (h : Egs N E) {a b : Int} (hp : pairD N a b = 0) (x y : Int) : adj (bindD N E a b).2 false x y ↔ adj E false x y ∨ Two x y a b := by
  rw [adj_false, adj_false]
  unfold bindD
  rw [if_neg (by simp [hp])]
  cases hat : atE E a b with
  | none =>
    have hE : edgeD E a b = none := by rw [edgeD_at, hat]; rfl
    simp only []
    rw [edgeD_app hE]
    by_cases h2 : Two x y a b <;> simp [h2]
  | some i =>
    obtain ⟨hi, h1, h2⟩ := at_edge hat
    simp only [List.getElem?_eq_getElem hi, Option.map_some, Option.some.injEq]
    have hsome : edgeD E a b = some E[i].2.2 := by rw [edgeD_at, hat]; simp [List.getElem?_eq_getElem hi]
    have htwo : Two x y a b → (edgeD E x y).isSome = true := by
      rintro (⟨rfl, rfl⟩ | ⟨rfl, rfl⟩)
      · rw [hsome]; rfl
      · rw [edgeD_comm, hsome]; rfl
    split
    · exact ⟨.inl, fun hh => hh.elim id htwo⟩
    · simp only []
      rw [edgeD_set hi h1 h2 h.once]
      by_cases h3 : Two x y a b
      · simp [h3]
      · simp [h3]

theorem bind_code {N : List Int} {E : Eg} {a b : Int} : (pairD N a b = 0 ∧ (bindD N E a b).1 = 0) ∨ (pairD N a b = 0 ∧ (bindD N E a b).1 = 7) ∨ (pairD N a b ≠ 0 ∧ (bindD N E a b).1 = pairD N a b) := by
  unfold bindD
  by_cases hp : pairD N a b = 0
  · rw [if_neg (by simp [hp])]
    cases atE E a b with
    | none => exact .inl ⟨hp, rfl⟩
    | some i =>
      simp only []
      split
      · exact .inr (.inl ⟨hp, rfl⟩)
      · exact .inl ⟨hp, rfl⟩
  · rw [if_pos (by simpa using hp)]
    exact .inr (.inr ⟨hp, rfl⟩)

theorem reachD_sorted (N : List Int) (E : Eg) (k : Int) (needed : Bool) : (reachD N E k needed).Pairwise (· < ·) := by
  unfold reachD
  split
  · exact reachN_sorted E needed k _
  · exact List.Pairwise.nil

theorem reachD_len {N : List Int} {E : Eg} (h : Egs N E) (k : Int) (needed : Bool) : (reachD N E k needed).length ≤ N.length :=
  nodup_le (sorted_nodup (reachD_sorted _ _ _ _)) fun x hx => way_in h ((mem_reachD h).1 hx).2 ((mem_reachD h).1 hx).1

/-- both nodes are there -/
structure Joins (N N2 : List Int) (E E' : Eg) (a b : Int) : Prop where
  all : ∀ k ∈ reachD N E a false ++ reachD N E b false, k ∈ reachD N E' a false
  len : (reachD N E' a false).length ≤ (reachD N E a false).length + (reachD N E b false).length
  same : reachD N E' a false = reachD N2 E' b false

theorem joins {N N2 : List Int} {E E' : Eg} {a b : Int} (h : Egs N E) (h' : Egs N E') (h2 : Egs N2 E') (ha : a ∈ N) (hb : b ∈ N) (hb2 : b ∈ N2) (hadj : ∀ x y, adj E' false x y ↔ adj E false x y ∨ Two x y a b) : Joins N N2 E E' a b := by
  have hab : adj E' false a b := (hadj a b).2 (.inr (.inl ⟨rfl, rfl⟩))
  have up : ∀ {x y}, Way (adj E false) x y → Way (adj E' false) x y := fun hw => hw.mono fun x y hh => (hadj x y).2 (.inl hh)
  refine ⟨fun k hk => ?_, ?_, ?_⟩
  · rw [mem_reachD h']
    refine ⟨ha, ?_⟩
    rcases List.mem_append.1 hk with hk | hk
    · exact up ((mem_reachD h).1 hk).2
    · exact (Way.step .here hab).trans (up ((mem_reachD h).1 hk).2)
  · have := nodup_le (l := reachD N E' a false) (K := reachD N E a false ++ reachD N E b false) (sorted_nodup (reachD_sorted _ _ _ _)) (fun x hx => by
      have hw := ((mem_reachD h').1 hx).2
      have : Way (adj E false) a x ∨ Way (adj E false) b x := by
        induction hw with
        | here => exact .inl .here
        | step _ hr ih =>
          rename_i y z hw'
          have ih := ih ((mem_reachD h').2 ⟨ha, hw'⟩)
          rcases (hadj _ _).1 hr with h3 | h3
          · exact ih.imp (fun g => g.step h3) (fun g => g.step h3)
          · rcases h3 with ⟨-, rfl⟩ | ⟨-, rfl⟩
            · exact .inr .here
            · exact .inl .here
      rw [List.mem_append, mem_reachD h, mem_reachD h]
      exact this.imp (fun g => ⟨ha, g⟩) (fun g => ⟨hb, g⟩))
    rwa [List.length_append] at this
  · refine sortedI_ext (reachD_sorted _ _ _ _) (reachD_sorted _ _ _ _) fun x => ?_
    rw [mem_reachD h', mem_reachD h2]
    exact ⟨fun hh => ⟨hb2, (Way.step .here (adj_comm hab)).trans hh.2⟩, fun hh => ⟨ha, (Way.step .here hab).trans hh.2⟩⟩

/-- a node without edges reaches itself alone -/
theorem reach_alone {N : List Int} {E : Eg} (h : Egs N E) {k : Int} (hk : k ∉ N) (h2 : Egs (putZ N k) E) : reachD (putZ N k) E k false = [k] := by
  refine sortedI_ext (reachD_sorted _ _ _ _) (List.pairwise_singleton _ _) fun x => ?_
  rw [mem_reachD h2, List.mem_singleton]
  constructor
  · rintro ⟨-, hw⟩
    induction hw with
    | here => rfl
    | step _ hr ih =>
      rename_i y c _
      rw [ih] at hr
      obtain ⟨e, he, -, h1, h3⟩ := mem_adj hr
      have hen := h.ends e he
      rcases Int.le_total k c with hb | hb
      · rw [Int.min_eq_left hb] at h1; exact absurd (h1 ▸ hen.2.1) hk
      · rw [Int.max_eq_left hb] at h3; exact absurd (h3 ▸ hen.2.2) hk
  · rintro rfl
    exact ⟨mem_putZ.2 (.inl rfl), .here⟩

/-- a row of numbers grows: the graph lies elsewhere -/
theorem GP.grown {B p m : Nat} {Q : Gr} {N : List Int} {E : Eg} {w w' : World} (h : GP B p m Q N E w) {o : Option Nat} (hg : w.grownBy w' o) (ht : ∀ b, o = some b → OfType w 37 b) : GP B p m Q N E w' := by
  have key : ∀ k, k < w.heap.size → (∀ b, o = some b → k ≠ b) → w'.heap[k]? = w.heap[k]? := fun k hk hne => hg.block k hk (fun e => hne k e.symm rfl)
  have hmap : ∀ j, IsMap w j → w'.heap[j]? = w.heap[j]? := fun j hj => by
    obtain ⟨es, c, h1⟩ := id hj
    exact key j (lt_block h1) fun b hb e => hj.no (e ▸ ht b hb)
  refine ⟨⟨(key p (lt_block h.g.cell) fun b hb e => ?_).trans h.g.cell, h.g.outer.kept (hmap m h.g.outer.isMap), fun q hq => (h.g.inner q hq).kept (hmap _ (h.g.inner q hq).isMap), h.g.apart⟩, h.rel, h.low, Nat.le_trans h.big hg.size⟩
  have hp : OfType w 93 p := ⟨_, _, h.g.cell⟩
  exact absurd (hp.ne (e ▸ ht b hb)) (by decide)

end Go.Proofs.Ytjnkiloomdeljaa
