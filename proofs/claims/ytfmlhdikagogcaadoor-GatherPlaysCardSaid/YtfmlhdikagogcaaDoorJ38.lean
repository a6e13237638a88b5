/-
  note: the document's Few: a note that is not too great, apart.
-/
import Derived.Test.YtfmlhdikagogcaaDoorJ37
import Derived.Test.YtfmlhdikagogcaaDoorJ19
import Derived.Test.YtfmlhdikagogcaaDoorJ22
import Derived.Laws.CopyOwn
namespace Go.Proofs.YtfmlhdikagogcaaDoor
open Go.RowKit
set_option maxRecDepth 20000

theorem infoInt : (Tryd.prog.info? 3).map (fun i => (i.zero, i.size, i.bytes)) = some (some (.int .i64 0), 1, 8) := by kernel_rfl
theorem rowIntN : RowTy Tryd.prog 33 3 1 8 (.int .i64 0) := ⟨Tryd.underlying33, infoInt, rfl, by decide⟩

/-- what Few makes of a note -/
def fewN (n : Nt) : Nt := {n with parts := n.parts.take 6, ops := fewZ 18 n.ops, vec := n.vec.take 10, hits := hitsZ 18 n.hits}

/-- a new note: its slices are of the call's own, its vector apart from all else -/
def NewNote (w : World) (n : Nt) (r : Ending) (w' : World) : Prop :=
  ∃ vp vo vv vh, r = .returned (.agg (n.cells vp vo vv vh)) ∧ NoteV w' (fun k => w.heap.size ≤ k ∧ k < w'.heap.size ∧ vv.ownBlock ≠ some k) n vp vo vv vh ∧
    LiesIn (fun k => w.heap.size ≤ k ∧ k < w'.heap.size ∧ vv.ownBlock ≠ some k) vp n.parts.length ∧ w'.ownsRow w.heap.size 21 1 vv n.vec.length (n.vec.map (Value.int .i32)) ∧ Below w.heap.size w w'

theorem min2n (a b : Int) (w : World) : (Builtin.min_ #[3, 3] 3 #[.int .i64 a, .int .i64 b]).run Tryd.prog w = .ok (.int .i64 (min a b)) w := by
  simp [Builtin.min_, Builtin.min2]
  by_cases h : b < a
  · simp [h]; omega
  · simp [h]; omega

theorem own_agree {w w' : World} {B e s n : Nat} {v : Value} {xs : List Value} (h : w.ownsRow B e s v n xs) (ha : ∀ k, v.ownBlock = some k → w'.heap[k]? = w.heap[k]?) : w'.ownsRow B e s v n xs := by
  obtain ⟨h1, ⟨h2, h3⟩ | ⟨g, cap, cur, hv, hb, hg, hn, hc, hs, ht⟩⟩ := h
  · exact ⟨h1, .inl ⟨h2, h3⟩⟩
  · exact ⟨h1, .inr ⟨g, cap, cur, hv, hb, by rw [ha g (by rw [hv]; rfl)]; exact hg, hn, hc, hs, ht⟩⟩

set_option maxHeartbeats 4000000 in
theorem refFew (n : Nt) (F : Nat → Prop) (vp vo vv vh : Value) (w : World) (hv : NoteV w F n vp vo vv vh) :
    Calls Tryd.prog 19 #[.agg (n.cells vp vo vv vh)] w (NewNote w (fewN n)) := by
  obtain ⟨p0, q0, rfl, a0, b0, z0, -⟩ := hv.parts.slice
  obtain ⟨p1, q1, rfl, a1, b1, -, -⟩ := id hv.ops
  obtain ⟨p2, q2, rfl, a2, b2, -, -⟩ := hv.vec.slice
  obtain ⟨p3, q3, rfl, a3, b3, -, -⟩ := id hv.hits
  have V := Lib.hid hv
  have l0 : n.parts.length ≤ 9223372036854775807 := by omega
  obtain ⟨m, hm, hm1, hm2⟩ : ∃ m : Nat, (m : Int) = min (n.parts.length : Int) 6 ∧ m ≤ n.parts.length ∧ m = min 6 n.parts.length := ⟨min 6 n.parts.length, by omega, by omega, rfl⟩
  have hmin := fun W => min2n (n.parts.length : Int) 6 W
  rw [← hm] at hmin
  have hmc : m ≤ q0 := by omega
  have b0' : q0 ≤ 9223372036854775807 := b0
  have M := Lib.hid (And.intro hm hm2)
  have hm6 : m ≤ 6 := by omega
  clear a0 b0 a1 b1 a2 b2 a3 b3 hv hm hm2
  unfold Nt.cells
  go_enter Tryd.func19, Tryd.ntmps19
  go_upto_region 1 with fail
  obtain ⟨CS, hCS⟩ : ∃ CS : Array Value, CS = #[.int .u8 n.kind, .int .u64 n.txn, .int .u64 n.batch, .int .u64 n.stamp, .int .u64 n.after, .int .u64 n.mark, .int .u64 n.query, .int .u64 n.id, .int .i64 n.k, .int .i64 n.ef, .int .i64 n.code, .int .i64 n.who, .slice p0 n.parts.length q0, .slice p1 n.ops.length q1, .slice p2 n.vec.length q2, .slice p3 n.hits.length q3] := ⟨_, rfl⟩
  obtain ⟨W1, hW1⟩ : ∃ W1, W1 = (w.alloc (.cells CS 53)).alloc (.cells #[.int .u8 0, .int .u64 0, .int .u64 0, .int .u64 0, .int .u64 0, .int .u64 0, .int .u64 0, .int .u64 0, .int .i64 0, .int .i64 0, .int .i64 0, .int .i64 0, .slice none 0 0, .slice none 0 0, .slice none 0 0, .slice none 0 0] 53) := ⟨_, rfl⟩
  have hs1 : W1.heap.size = w.heap.size + 2 := by rw [hW1]; simp
  have BW1 : Below w.heap.size w W1 := by rw [hW1]; exact ((Below.refl _ _).alloc (Nat.le_refl _) _).alloc (by simp) _
  have y1 : W1.heap[w.heap.size]? = some (.cells CS 53 (0, 0)) := by rw [hW1, heap_alloc_old _ _ (by simp)]; exact heap_alloc_new _ _
  have k1 : W1.heap[w.heap.size + 1]? = some (.cells #[.int .u8 0, .int .u64 0, .int .u64 0, .int .u64 0, .int .u64 0, .int .u64 0, .int .u64 0, .int .u64 0, .int .i64 0, .int .i64 0, .int .i64 0, .int .i64 0, .slice none 0 0, .slice none 0 0, .slice none 0 0, .slice none 0 0] 53 (0, 0)) := by rw [hW1]; have := heap_alloc_new (w.alloc (.cells CS 53)) (.cells #[.int .u8 0, .int .u64 0, .int .u64 0, .int .u64 0, .int .u64 0, .int .u64 0, .int .u64 0, .int .u64 0, .int .i64 0, .int .i64 0, .int .i64 0, .int .i64 0, .slice none 0 0, .slice none 0 0, .slice none 0 0, .slice none 0 0] 53); rwa [World.size_alloc] at this
  rw [← hCS, ← hW1]
  have BA : Below w.heap.size w (W1.alloc (.cells #[] 3)) := BW1.alloc (by omega) _
  have s0 := SrcAt.of_nums (V.out.parts.below BA)
  have SRC : SrcAt (W1.alloc (.cells #[] 3)) p0 m q0 1 ((n.parts.take m).map (Value.int .i64)) := ⟨by simp; omega, fun e => by have := z0 e; omega, fun a ha j u hj => s0.cells a ha j u (by
    rw [List.map_take, List.getElem?_take] at hj
    split at hj
    · exact hj
    · cases hj)⟩
  obtain ⟨q5, k5, c5, W5, hrun, own5, hg5, -⟩ := run_app rowIntN (own_fresh W1 3 1 0 #[] rfl (by decide)) (by simp) SRC ints_one (by simp [maxLen]; omega) (by omega)
  obtain rfl : k5 = 0 + m := own_len own5
  have z12 : W1.cell? ⟨w.heap.size, 12, none⟩ = some (.slice p0 n.parts.length q0) := by rw [cells_get y1 12, hCS]; rfl
  have y5 : W5.heap[w.heap.size]? = some (.cells CS 53 (0, 0)) := by
    rw [hg5.block _ (by simp; omega) (fun e => by have : W1.heap.size = w.heap.size := by simpa [Value.ownBlock] using e.symm
                                                  omega), heap_alloc_old _ _ (by omega)]
    exact y1
  have k5 : W5.heap[w.heap.size + 1]? = some (.cells #[.int .u8 0, .int .u64 0, .int .u64 0, .int .u64 0, .int .u64 0, .int .u64 0, .int .u64 0, .int .u64 0, .int .i64 0, .int .i64 0, .int .i64 0, .int .i64 0, .slice none 0 0, .slice none 0 0, .slice none 0 0, .slice none 0 0] 53 (0, 0)) := by
    rw [hg5.block _ (by simp; omega) (fun e => by have : W1.heap.size = w.heap.size + 1 := by simpa [Value.ownBlock] using e.symm
                                                  omega), heap_alloc_old _ _ (by omega)]
    exact k1
  have B5 : Below w.heap.size w W5 := BA.grown hg5 (by simp; omega) (fun b e => by have : W1.heap.size = b := by simpa [Value.ownBlock] using e
                                                                                   omega)
  have x12 : W5.cell? ⟨w.heap.size, 12, none⟩ = some (.slice p0 n.parts.length q0) := by rw [cells_get y5 12, hCS]; rfl
  have f12 := thawed y5 12
  have hlt1 : w.heap.size < W1.heap.size := by omega
  have KK := Lib.hid (And.intro y5 (And.intro k5 (And.intro B5 own5)))
  have HCS := Lib.hid hCS
  have HS1 := Lib.hid hs1
  clear hW1 y1 k1 BA s0 SRC own5 hg5 y5 k5 B5 BW1 hCS hs1
  go_upto_region 2 with (with_reducible refine wpList_append_eq hrun rfl _ _ rfl rfl rfl ?_)
  obtain ⟨W6, hW6⟩ : ∃ W6, W6 = (W5.setCell ⟨w.heap.size, 12, none⟩ (.slice q5 m c5)).drew := ⟨_, rfl⟩
  have y6 : W6.heap[w.heap.size]? = some (.cells (CS.setIfInBounds 12 (.slice q5 m c5)) 53 (0, 0)) := by rw [hW6]; exact set_block KK.out.1 12 _
  have k6 : W6.heap[w.heap.size + 1]? = some (.cells #[.int .u8 0, .int .u64 0, .int .u64 0, .int .u64 0, .int .u64 0, .int .u64 0, .int .u64 0, .int .u64 0, .int .i64 0, .int .i64 0, .int .i64 0, .int .i64 0, .slice none 0 0, .slice none 0 0, .slice none 0 0, .slice none 0 0] 53 (0, 0)) := by rw [hW6]; exact (set_other rfl (by omega) 12 _).trans KK.out.2.1
  have b6 : Below w.heap.size w W6 := by rw [hW6]; exact (KK.out.2.2.1.setCell (p := ⟨w.heap.size, 12, none⟩) (Nat.le_refl _) _).drew
  have o6 : W6.ownsRow W1.heap.size 3 1 (.slice q5 m c5) m ((n.parts.take m).map (Value.int .i64)) := by
    have h0 := KK.out.2.2.2
    simp only [Nat.zero_add, List.toList_toArray, List.nil_append] at h0
    have h1 := h0.kept (grownBy_setCells w.heap.size [(.slice q5 m c5)] 12 W5) (.inr (fun e => by have h2 := h0.lt _ e; have h3 := HS1.out; omega))
    rw [hW6]
    exact own_below h1 (Below.refl _ _).drew
  have z13 : W6.cell? ⟨w.heap.size, 13, none⟩ = some (.slice p1 n.ops.length q1) := by rw [cells_get y6 13, HCS.out]; rfl
  have z15 : W6.cell? ⟨w.heap.size, 15, none⟩ = some (.slice p3 n.hits.length q3) := by rw [cells_get y6 15, HCS.out]; rfl
  have z14 : W6.cell? ⟨w.heap.size, 14, none⟩ = some (.slice p2 n.vec.length q2) := by rw [cells_get y6 14, HCS.out]; rfl
  have hs6 : w.heap.size < W6.heap.size := lt_block y6
  have C1 := Lib.hid (show Calls Tryd.prog 44 #[.slice p1 n.ops.length q1, .int .i64 18] W6 (NewRecs W6 105 (fewZ 18 n.ops)) from few 18 (by omega) n.ops _ W6 (V.out.ops.recs.below b6))
  have Y6 := Lib.hid (And.intro y6 (And.intro k6 (And.intro b6 o6)))
  have HW := Lib.hid hW6
  clear hW6 y6 k6 b6 o6 x12 f12 z12 KK hrun
  refine region_goM [9, 10, 11, 12, 13, 14] (fun w' => w'.cell? ⟨w.heap.size, 13, none⟩ = some (.slice p1 n.ops.length q1) ∧ w'.cell? ⟨w.heap.size, 15, none⟩ = some (.slice p3 n.hits.length q3) ∧ w'.cell? ⟨w.heap.size, 14, none⟩ = some (.slice p2 n.vec.length q2)) (by kernel_rfl) ?hS0 (fun hH => ?_)
  case hS0 =>
    rw [← HW.out]; exact ⟨z13, z15, z14⟩
  rw [← HW.out] at hH ⊢
  refine kYM 0 hH ?_
  repeat simp only [Act.put, uA1, uB1, uC1]
  refine kYM 1 hH ?_
  repeat simp only [Act.put, uA1, uB1, uC1]
  refine kYM 3 hH ?_
  repeat simp only [Act.put, uA1, uB1, uC1]
  refine kYM 4 hH ?_
  repeat simp only [Act.put, uA1, uB1, uC1]
  refine kYM 6 hH ?_
  repeat simp only [Act.put, uA1, uB1, uC1]
  refine kYM 7 hH ?_
  repeat simp only [Act.put, uA1, uB1, uC1]
  refine spkM 2 rfl (by decide) (by decide +kernel) (by rfl) (fun K' hK => ?_)
  go_simp
  with_reducible refine C1.out.mono ?_
  rintro e w7 ⟨v7, rs7, rfl, ho7, hh7, hb7⟩
  have B7 := Lib.hid (Y6.out.2.2.1.trans (hb7.mono Y6.out.2.2.1.size))
  have C2 := Lib.hid (show Calls Tryd.prog 45 #[.slice p3 n.hits.length q3, .int .i64 18] w7 (NewHits w7 40 (hitsZ 18 n.hits)) from refHits 18 (by omega) n.hits _ _ w7 (V.out.hits.below B7.out))
  obtain ⟨q7, m7, c7, rfl⟩ := own_form ho7
  have O7 := Lib.hid (And.intro ho7 (And.intro hh7 hb7))
  clear ho7 hh7
  try dsimp only
  refine hK.out _ _ ?hS (fun hH' => ?_)
  case hS =>
    exact ⟨below_cells hb7 hH.1, below_cells hb7 hH.2.1, below_cells hb7 hH.2.2⟩
  clear hK K' hH; have hH := hH'; clear hH'; repeat simp only [Act.put, uA1, uB1, uC1]
  refine kAM 9 ?_
  repeat simp only [Act.put, uA1, uB1, uC1]
  refine spkM 5 rfl (by decide) (by decide +kernel) (by rfl) (fun K' hK => ?_)
  go_simp
  with_reducible refine C2.out.mono ?_
  rintro e w8 ⟨v8, rs8, rfl, ho8, hh8, hb8⟩
  have B8 := Lib.hid (B7.out.trans (hb8.mono B7.out.size))
  have C3 := Lib.hid (show Calls Tryd.prog 46 #[.slice p2 n.vec.length q2, .int .i64 10] w8 (NewNums w8 .i32 21 (n.vec.take 10)) from cutVec n.vec _ 10 w8 (V.out.vec.below B8.out) (by decide) (.inr (by decide)))
  obtain ⟨q8, m8, c8, rfl⟩ := own_form ho8
  have O8 := Lib.hid (And.intro ho8 (And.intro hh8 hb8))
  clear ho8 hh8 hb7
  try dsimp only
  refine hK.out _ _ ?hS (fun hH' => ?_)
  case hS =>
    exact ⟨below_cells hb8 hH.1, below_cells hb8 hH.2.1, below_cells hb8 hH.2.2⟩
  clear hK K' hH; have hH := hH'; clear hH'; repeat simp only [Act.put, uA1, uB1, uC1]
  refine spkM 8 rfl (by decide) (by decide +kernel) (by rfl) (fun K' hK => ?_)
  go_simp
  with_reducible refine C3.out.mono ?_
  rintro e w9 ⟨v9, rfl, ho9, hb9⟩
  obtain ⟨q9, m9, c9, rfl⟩ := own_form ho9
  have hb69 := (O7.out.2.2.trans (hb8.mono O7.out.2.2.size)).trans (hb9.mono (Nat.le_trans O7.out.2.2.size hb8.size))
  have y9 := (hb69.block _ hs6).trans Y6.out.1
  have f13 := thawed y9 13
  have f14 := thawed y9 14
  have f15 := thawed y9 15
  have O9 := Lib.hid (And.intro ho9 (And.intro y9 hb69))
  clear ho9 y9 hb8 hb69
  try dsimp only
  refine hK.out _ _ ?hS (fun hH' => ?_)
  case hS =>
    exact ⟨below_cells hb9 hH.1, below_cells hb9 hH.2.1, below_cells hb9 hH.2.2⟩
  clear hK K' hH; have hH := hH'; clear hH'; repeat simp only [Act.put, uA1, uB1, uC1]
  refine spkLM 10 rfl (by decide) (by decide +kernel) (by rfl) (fun K' hK => ?_)
  go_simp
  try dsimp only
  refine hK.out _ _ ?_
  clear hK K'; repeat simp only [Act.put, uA1, uB1, uC1]
  refine kAM 11 ?_
  repeat simp only [Act.put, uA1, uB1, uC1]
  refine spkLM 12 rfl (by decide) (by decide +kernel) (by rfl) (fun K' hK => ?_)
  go_simp
  try dsimp only
  refine hK.out _ _ ?_
  clear hK K'; repeat simp only [Act.put, uA1, uB1, uC1]
  refine kAM 13 ?_
  repeat simp only [Act.put, uA1, uB1, uC1]
  refine spkLM 14 rfl (by decide) (by decide +kernel) (by rfl) (fun K' hK => ?_)
  go_simp
  try dsimp only
  refine hK.out _ _ ?_
  clear hK K'; repeat simp only [Act.put, uA1, uB1, uC1]
  refine anyButM_done (by decide +kernel) ?_ _
  clear hH
  obtain ⟨W10, hW10⟩ : ∃ W10, W10 = ((w9.setCell ⟨w.heap.size, 13, none⟩ (.slice q7 m7 c7)).setCell ⟨w.heap.size, 15, none⟩ (.slice q8 m8 c8)).setCell ⟨w.heap.size, 14, none⟩ (.slice q9 m9 c9) := ⟨_, rfl⟩
  have y10 : W10.heap[w.heap.size]? = some (.cells #[.int .u8 n.kind, .int .u64 n.txn, .int .u64 n.batch, .int .u64 n.stamp, .int .u64 n.after, .int .u64 n.mark, .int .u64 n.query, .int .u64 n.id, .int .i64 n.k, .int .i64 n.ef, .int .i64 n.code, .int .i64 n.who, .slice q5 m c5, .slice q7 m7 c7, .slice q9 m9 c9, .slice q8 m8 c8] 53 (0, 0)) := by
    rw [hW10, set_block (set_block (set_block O9.out.2.1 13 _) 15 _) 14 _, HCS.out]
    rfl
  have k10 : W10.heap[w.heap.size + 1]? = some (.cells #[.int .u8 0, .int .u64 0, .int .u64 0, .int .u64 0, .int .u64 0, .int .u64 0, .int .u64 0, .int .u64 0, .int .i64 0, .int .i64 0, .int .i64 0, .int .i64 0, .slice none 0 0, .slice none 0 0, .slice none 0 0, .slice none 0 0] 53 (0, 0)) := by
    have h1 := (O9.out.2.2.block _ (lt_block Y6.out.2.1)).trans Y6.out.2.1
    rw [hW10]
    exact set_other (set_other (set_other h1 (by omega) 13 _) (by omega) 15 _) (by omega) 14 _
  have Y10 := Lib.hid (And.intro y10 k10)
  have HW10 := Lib.hid hW10
  rw [← hW10]
  clear hW10
  have x0 : W10.cell? ⟨w.heap.size, 0, none⟩ = some (.int .u8 n.kind) := cells_get y10 0
  have x1 : W10.cell? ⟨w.heap.size, 1, none⟩ = some (.int .u64 n.txn) := cells_get y10 1
  have x2 : W10.cell? ⟨w.heap.size, 2, none⟩ = some (.int .u64 n.batch) := cells_get y10 2
  have x3 : W10.cell? ⟨w.heap.size, 3, none⟩ = some (.int .u64 n.stamp) := cells_get y10 3
  have x4 : W10.cell? ⟨w.heap.size, 4, none⟩ = some (.int .u64 n.after) := cells_get y10 4
  have x5 : W10.cell? ⟨w.heap.size, 5, none⟩ = some (.int .u64 n.mark) := cells_get y10 5
  have x6 : W10.cell? ⟨w.heap.size, 6, none⟩ = some (.int .u64 n.query) := cells_get y10 6
  have x7 : W10.cell? ⟨w.heap.size, 7, none⟩ = some (.int .u64 n.id) := cells_get y10 7
  have x8 : W10.cell? ⟨w.heap.size, 8, none⟩ = some (.int .i64 n.k) := cells_get y10 8
  have x9 : W10.cell? ⟨w.heap.size, 9, none⟩ = some (.int .i64 n.ef) := cells_get y10 9
  have x10 : W10.cell? ⟨w.heap.size, 10, none⟩ = some (.int .i64 n.code) := cells_get y10 10
  have x11 : W10.cell? ⟨w.heap.size, 11, none⟩ = some (.int .i64 n.who) := cells_get y10 11
  have x12 : W10.cell? ⟨w.heap.size, 12, none⟩ = some (.slice q5 m c5) := cells_get y10 12
  have x13 : W10.cell? ⟨w.heap.size, 13, none⟩ = some (.slice q7 m7 c7) := cells_get y10 13
  have x14 : W10.cell? ⟨w.heap.size, 14, none⟩ = some (.slice q9 m9 c9) := cells_get y10 14
  have x15 : W10.cell? ⟨w.heap.size, 15, none⟩ = some (.slice q8 m8 c8) := cells_get y10 15
  clear y10 k10
  have g0 : W10.cell? ⟨w.heap.size + 1, 0, none⟩ = some (.int .u8 0) := cells_get Y10.out.2 0
  have e0 := thawed Y10.out.2 0
  have g1 : W10.cell? ⟨w.heap.size + 1, 1, none⟩ = some (.int .u64 0) := cells_get Y10.out.2 1
  have e1 := thawed Y10.out.2 1
  have g2 : W10.cell? ⟨w.heap.size + 1, 2, none⟩ = some (.int .u64 0) := cells_get Y10.out.2 2
  have e2 := thawed Y10.out.2 2
  have g3 : W10.cell? ⟨w.heap.size + 1, 3, none⟩ = some (.int .u64 0) := cells_get Y10.out.2 3
  have e3 := thawed Y10.out.2 3
  have g4 : W10.cell? ⟨w.heap.size + 1, 4, none⟩ = some (.int .u64 0) := cells_get Y10.out.2 4
  have e4 := thawed Y10.out.2 4
  have g5 : W10.cell? ⟨w.heap.size + 1, 5, none⟩ = some (.int .u64 0) := cells_get Y10.out.2 5
  have e5 := thawed Y10.out.2 5
  have g6 : W10.cell? ⟨w.heap.size + 1, 6, none⟩ = some (.int .u64 0) := cells_get Y10.out.2 6
  have e6 := thawed Y10.out.2 6
  have g7 : W10.cell? ⟨w.heap.size + 1, 7, none⟩ = some (.int .u64 0) := cells_get Y10.out.2 7
  have e7 := thawed Y10.out.2 7
  have g8 : W10.cell? ⟨w.heap.size + 1, 8, none⟩ = some (.int .i64 0) := cells_get Y10.out.2 8
  have e8 := thawed Y10.out.2 8
  have g9 : W10.cell? ⟨w.heap.size + 1, 9, none⟩ = some (.int .i64 0) := cells_get Y10.out.2 9
  have e9 := thawed Y10.out.2 9
  have g10 : W10.cell? ⟨w.heap.size + 1, 10, none⟩ = some (.int .i64 0) := cells_get Y10.out.2 10
  have e10 := thawed Y10.out.2 10
  have g11 : W10.cell? ⟨w.heap.size + 1, 11, none⟩ = some (.int .i64 0) := cells_get Y10.out.2 11
  have e11 := thawed Y10.out.2 11
  have g12 : W10.cell? ⟨w.heap.size + 1, 12, none⟩ = some (.slice none 0 0) := cells_get Y10.out.2 12
  have e12 := thawed Y10.out.2 12
  have g13 : W10.cell? ⟨w.heap.size + 1, 13, none⟩ = some (.slice none 0 0) := cells_get Y10.out.2 13
  have e13 := thawed Y10.out.2 13
  have g14 : W10.cell? ⟨w.heap.size + 1, 14, none⟩ = some (.slice none 0 0) := cells_get Y10.out.2 14
  have e14 := thawed Y10.out.2 14
  have g15 : W10.cell? ⟨w.heap.size + 1, 15, none⟩ = some (.slice none 0 0) := cells_get Y10.out.2 15
  have e15 := thawed Y10.out.2 15
  go_wp2_with fail
  obtain ⟨W11, hW11⟩ : ∃ W11, W11 = ((((((((((((((((W10.setCell ⟨w.heap.size + 1, 0, none⟩ (.int .u8 n.kind)).setCell ⟨w.heap.size + 1, 1, none⟩ (.int .u64 n.txn)).setCell ⟨w.heap.size + 1, 2, none⟩ (.int .u64 n.batch)).setCell ⟨w.heap.size + 1, 3, none⟩ (.int .u64 n.stamp)).setCell ⟨w.heap.size + 1, 4, none⟩ (.int .u64 n.after)).setCell ⟨w.heap.size + 1, 5, none⟩ (.int .u64 n.mark)).setCell ⟨w.heap.size + 1, 6, none⟩ (.int .u64 n.query)).setCell ⟨w.heap.size + 1, 7, none⟩ (.int .u64 n.id)).setCell ⟨w.heap.size + 1, 8, none⟩ (.int .i64 n.k)).setCell ⟨w.heap.size + 1, 9, none⟩ (.int .i64 n.ef)).setCell ⟨w.heap.size + 1, 10, none⟩ (.int .i64 n.code)).setCell ⟨w.heap.size + 1, 11, none⟩ (.int .i64 n.who)).setCell ⟨w.heap.size + 1, 12, none⟩ (.slice q5 m c5)).setCell ⟨w.heap.size + 1, 13, none⟩ (.slice q7 m7 c7)).setCell ⟨w.heap.size + 1, 14, none⟩ (.slice q9 m9 c9)).setCell ⟨w.heap.size + 1, 15, none⟩ (.slice q8 m8 c8)) := ⟨_, rfl⟩
  have y11 : W11.heap[w.heap.size + 1]? = some (.cells #[.int .u8 n.kind, .int .u64 n.txn, .int .u64 n.batch, .int .u64 n.stamp, .int .u64 n.after, .int .u64 n.mark, .int .u64 n.query, .int .u64 n.id, .int .i64 n.k, .int .i64 n.ef, .int .i64 n.code, .int .i64 n.who, .slice q5 m c5, .slice q7 m7 c7, .slice q9 m9 c9, .slice q8 m8 c8] 53 (0, 0)) := by
    rw [hW11, set_block (set_block (set_block (set_block (set_block (set_block (set_block (set_block (set_block (set_block (set_block (set_block (set_block (set_block (set_block (set_block Y10.out.2 0 _) 1 _) 2 _) 3 _) 4 _) 5 _) 6 _) 7 _) 8 _) 9 _) 10 _) 11 _) 12 _) 13 _) 14 _) 15 _]
    simp only [List.setIfInBounds_toArray, List.set_cons_zero, List.set_cons_succ]
  have O11 : ∀ k, k ≠ w.heap.size + 1 → W11.heap[k]? = W10.heap[k]? := fun k hk => by
    rw [hW11]
    iterate 16 rw [set_other rfl hk]
  have s110 : W11.heap.size = W10.heap.size := by rw [hW11]; simp only [World.setCell, Array.size_modify]
  have B11 : Below w.heap.size W10 W11 := by
    rw [hW11]
    iterate 16 refine Below.setCell ?_ (Nat.le_succ _) _
    exact Below.refl _ _
  rw [← hW11]
  clear hW11 x0 x1 x2 x3 x4 x5 x6 x7 x8 x9 x10 x11 x12 x13 x14 x15 g0 g1 g2 g3 g4 g5 g6 g7 g8 g9 g10 g11 g12 g13 g14 g15 e0 e1 e2 e3 e4 e5 e6 e7 e8 e9 e10 e11 e12 e13 e14 e15
  refine bodyPost_ret (results_cell_row (p := 2) (by kernel_rfl) _ W11 (w.heap.size + 1) 53 #[.int .u8 n.kind, .int .u64 n.txn, .int .u64 n.batch, .int .u64 n.stamp, .int .u64 n.after, .int .u64 n.mark, .int .u64 n.query, .int .u64 n.id, .int .i64 n.k, .int .i64 n.ef, .int .i64 n.code, .int .i64 n.who, .slice q5 m c5, .slice q7 m7 c7, .slice q9 m9 c9, .slice q8 m8 c8] (0, 0) _ (by rfl) y11 Tryd.underlying53 rfl (by kernel_rfl)) rfl ?_
  have A11 : ∀ k, w.heap.size + 2 ≤ k → W11.heap[k]? = w9.heap[k]? := fun k hk => by
    rw [O11 k (by omega), HW10.out, set_other rfl (by omega), set_other rfl (by omega), set_other rfl (by omega)]
  have s11 : W11.heap.size = w9.heap.size := by rw [s110, HW10.out]; simp [World.setCell]
  have hs1 := HS1.out
  have l6 := (Y6.out.2.2.2).lt
  have b67 := O7.out.2.2
  have b78 := O8.out.2.2
  have e67 := b67.size
  have e78 := b78.size
  have e89 := hb9.size
  have s16 : W1.heap.size ≤ W6.heap.size := by
    have h1 : w.heap.size + 1 < W6.heap.size := lt_block Y6.out.2.1
    omega
  have A6 : ∀ k, w.heap.size + 2 ≤ k → k < W6.heap.size → W11.heap[k]? = W6.heap[k]? := fun k h1 h2 => by
    rw [A11 k h1, hb9.block k (by omega), b78.block k (by omega), b67.block k h2]
  have A7 : ∀ k, w.heap.size + 2 ≤ k → k < w7.heap.size → W11.heap[k]? = w7.heap[k]? := fun k h1 h2 => by
    rw [A11 k h1, hb9.block k (by omega), b78.block k h2]
  have A8 : ∀ k, w.heap.size + 2 ≤ k → k < w8.heap.size → W11.heap[k]? = w8.heap[k]? := fun k h1 h2 => by
    rw [A11 k h1, hb9.block k h2]
  have l9 := O9.out.1.lt
  have oP := own_agree (w' := W11) Y6.out.2.2.2 (fun k e => A6 k (by have := l6 k e; omega) (l6 k e).2)
  have oV := own_agree (w' := W11) O9.out.1 (fun k e => A11 k (by have := l9 k e; omega))
  have eP : (fewN n).parts = n.parts.take m := by show n.parts.take 6 = _; rw [M.out.2, ← List.take_eq_take_min]
  refine ⟨.slice q5 m c5, .slice q7 m7 c7, .slice q9 m9 c9, .slice q8 m8 c8, rfl, ⟨by rw [eP]; exact Nums.of_own oP, ?_, Nums.of_own oV, ?_⟩, ?_, own_mono oV (by omega), ?_⟩
  · refine ((Held2.recsF O7.out.1 O7.out.2.1 (Nat.le_refl _)).agree (fun k hk => A7 k (by omega) hk.2)).mono fun k hk => ⟨by omega, by omega, fun e => by have := l9 k e; omega⟩
  · refine ((HitsF.of_own (F := fun k => w7.heap.size ≤ k ∧ k < w8.heap.size) O8.out.1 (fun b hb => O8.out.1.lt b hb) O8.out.2.1.rows).agree (fun k hk => A8 k (by omega) hk.2)).mono fun k hk => ⟨by omega, by omega, fun e => by have := l9 k e; omega⟩
  · exact fun _ k e => ⟨by have := l6 k e; omega, by have := l6 k e; omega, fun e2 => by have h1 := l6 k e; have h2 := l9 k e2; omega⟩
  · have B9 : Below w.heap.size w w9 := Y6.out.2.2.1.trans (O9.out.2.2.mono Y6.out.2.2.1.size)
    refine Below.trans ?_ B11
    rw [HW10.out]
    exact ((B9.setCell (p := ⟨w.heap.size, 13, none⟩) (Nat.le_refl _) _).setCell (p := ⟨w.heap.size, 15, none⟩) (Nat.le_refl _) _).setCell (p := ⟨w.heap.size, 14, none⟩) (Nat.le_refl _) _

end Go.Proofs.YtfmlhdikagogcaaDoor
