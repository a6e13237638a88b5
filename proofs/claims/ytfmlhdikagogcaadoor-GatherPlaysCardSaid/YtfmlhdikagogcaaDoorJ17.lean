/-
  gather: what is told to who asked; is a note odd; a gather's small calls.
-/
import Derived.Test.YtfmlhdikagogcaaDoorJ16
namespace Go.Proofs.YtfmlhdikagogcaaDoor
open Go.RowKit
set_option maxRecDepth 20000

/-- a result's note -/
def resN (stamp query code : Int) (hits : List Hz) : Nt := ⟨11, 0, 0, stamp, 0, 0, query, 0, 0, 0, code, 0, [], [], [], hits⟩

theorem Nums.nil (w : World) (k : IntKind) : Nums w k (.slice none 0 0) [] := Nums.mk (xs := []) (by simp) (by simp) (by simp) fun i hi => absurd hi (by simp)

theorem own_fresh (w : World) (e size n : Nat) (cs : Array Value) (hc : cs.size = n * size) (hn : n ≤ maxLen) : (w.alloc (.cells cs e)).ownsRow w.heap.size e size (.slice (some ⟨w.heap.size, 0, none⟩) n n) n cs.toList :=
  ⟨by simp [hc], .inr ⟨_, n, cs, rfl, Nat.le_refl _, heap_alloc_new _ _, Nat.le_refl _, hn, hc, by rw [List.take_of_length_le]; simp [hc]⟩⟩

theorem result (b : Nat) (who stamp query code : Int) (hits : List Hz) (vh : Value) (G : Nat → Prop) (w : World) (h3 : w.cell? ⟨b, 3, none⟩ = some (.int .u64 stamp)) (h16 : w.cell? ⟨b, 16, none⟩ = some (.int .i64 who)) (h17 : w.cell? ⟨b, 17, none⟩ = some (.int .u64 query)) (hh : HitsF w G vh hits) (hG : ∀ k, G k → k < w.heap.size) :
    Calls Tryd.prog 34 #[.pointer (some ⟨b, 0, none⟩), .int .i64 code, vh] w (NewMails w 44 G [(who, resN stamp query code hits)]) := by
  obtain ⟨p4, c4, rfl, -, -, -, -⟩ := id hh
  go_enter Tryd.func34, Tryd.ntmps34
  go_wp2_with fail
  refine region_go (fun w' => w'.cell? ⟨b, 3, none⟩ = some (.int .u64 stamp) ∧ w'.cell? ⟨b, 16, none⟩ = some (.int .i64 who) ∧ w'.cell? ⟨b, 17, none⟩ = some (.int .u64 query)) (by kernel_rfl) ?hS0 (fun hH => ?_)
  case hS0 =>
    exact ⟨h3, h16, h17⟩
  refine kY 0 hH ?_
  repeat simp only [Act.put, uA1, uB1, uC1]
  refine kY 1 hH ?_
  repeat simp only [Act.put, uA1, uB1, uC1]
  refine kY 2 hH ?_
  repeat simp only [Act.put, uA1, uB1, uC1]
  refine kY 3 hH ?_
  repeat simp only [Act.put, uA1, uB1, uC1]
  refine kY 4 hH ?_
  repeat simp only [Act.put, uA1, uB1, uC1]
  refine kY 5 hH ?_
  repeat simp only [Act.put, uA1, uB1, uC1]
  refine kY 6 hH ?_
  repeat simp only [Act.put, uA1, uB1, uC1]
  refine kY 7 hH ?_
  repeat simp only [Act.put, uA1, uB1, uC1]
  refine kY 8 hH ?_
  repeat simp only [Act.put, uA1, uB1, uC1]
  refine kY 9 hH ?_
  repeat simp only [Act.put, uA1, uB1, uC1]
  refine kY 10 hH ?_
  repeat simp only [Act.put, uA1, uB1, uC1]
  refine kY 11 hH ?_
  repeat simp only [Act.put, uA1, uB1, uC1]
  refine kY 12 hH ?_
  repeat simp only [Act.put, uA1, uB1, uC1]
  refine kY 13 hH ?_
  repeat simp only [Act.put, uA1, uB1, uC1]
  refine kY 14 hH ?_
  repeat simp only [Act.put, uA1, uB1, uC1]
  refine kY 15 hH ?_
  repeat simp only [Act.put, uA1, uB1, uC1]
  refine kY 16 hH ?_
  repeat simp only [Act.put, uA1, uB1, uC1]
  refine spk 17 rfl (by decide +kernel) (by rfl) (fun K' hK => ?_)
  go_simp
  try dsimp only
  refine hK.out _ _ ?hS (fun hH' => ?_)
  case hS =>
    exact ⟨below_cells (((Below.refl w.heap.size w).alloc (Nat.le_refl _) _).drew) h3, below_cells (((Below.refl w.heap.size w).alloc (Nat.le_refl _) _).drew) h16, below_cells (((Below.refl w.heap.size w).alloc (Nat.le_refl _) _).drew) h17⟩
  clear hK K' hH; have hH := hH'; clear hH'; repeat simp only [Act.put, uA1, uB1, uC1]
  refine kY 18 hH ?_
  repeat simp only [Act.put, uA1, uB1, uC1]
  refine wpAnyH_done (by decide +kernel) ?_ _
  clear hH
  go_wp2_with fail
  go_ret
  have hb : Below w.heap.size w (w.alloc (.cells #[.int .i64 who, .int .u8 11, .int .u64 0, .int .u64 0, .int .u64 stamp, .int .u64 0, .int .u64 0, .int .u64 query, .int .u64 0, .int .i64 0, .int .i64 0, .int .i64 code, .int .i64 0, .slice none 0 0, .slice none 0 0, .slice none 0 0, .slice p4 hits.length c4] 44)).drew := ((Below.refl w.heap.size w).alloc (Nat.le_refl _) _).drew
  refine ⟨_, [⟨who, resN stamp query code hits, .slice none 0 0, .slice none 0 0, .slice none 0 0, .slice p4 hits.length c4⟩], G, rfl, ?_, rfl, ?_, fun k hk => ⟨?_, ?_, .inr hk⟩, hb⟩
  · exact own_below (own_fresh w 44 17 1 #[.int .i64 who, .int .u8 11, .int .u64 0, .int .u64 0, .int .u64 stamp, .int .u64 0, .int .u64 0, .int .u64 query, .int .u64 0, .int .i64 0, .int .i64 0, .int .i64 code, .int .i64 0, .slice none 0 0, .slice none 0 0, .slice none 0 0, .slice p4 hits.length c4] rfl (by decide)) (Below.refl _ _).drew
  · intro r hr
    rw [List.mem_singleton.1 hr]
    exact ⟨⟨Nums.nil _ _, RecsF.nil _ _, Nums.nil _ _, hh.below hb⟩, fun h => absurd h (by simp [resN]), fun h => absurd h (by simp [resN])⟩
  · have h1 := hb.size; have h2 := hG k hk; exact Nat.lt_of_lt_of_le h2 h1
  · have h2 := hG k hk; intro e; have e2 : some w.heap.size = some k := e; have e3 := Option.some.inj e2; clear hb; omega

/-- is it no such note, or of nobody? -/
def oddB (frm : Int) (n : Nt) (kind : Int) : Bool := n.kind != kind || !rightN n || decide (frm < 0) || decide (16 ≤ frm)

/-- a note in a block of its own -/
theorem note_get {w : World} {b : Nat} {n : Nt} {vp vo vv vh : Value} {t : TypeId} {fr : Nat × Nat} (h : w.heap[b]? = some (.cells (n.cells vp vo vv vh) t fr)) :
    (w.cell? ⟨b, 0, none⟩ = some (.int .u8 n.kind) ∧ w.cell? ⟨b, 1, none⟩ = some (.int .u64 n.txn) ∧ w.cell? ⟨b, 2, none⟩ = some (.int .u64 n.batch) ∧ w.cell? ⟨b, 3, none⟩ = some (.int .u64 n.stamp) ∧ w.cell? ⟨b, 4, none⟩ = some (.int .u64 n.after)) ∧
    (w.cell? ⟨b, 5, none⟩ = some (.int .u64 n.mark) ∧ w.cell? ⟨b, 6, none⟩ = some (.int .u64 n.query) ∧ w.cell? ⟨b, 7, none⟩ = some (.int .u64 n.id) ∧ w.cell? ⟨b, 8, none⟩ = some (.int .i64 n.k) ∧ w.cell? ⟨b, 9, none⟩ = some (.int .i64 n.ef)) ∧
    (w.cell? ⟨b, 10, none⟩ = some (.int .i64 n.code) ∧ w.cell? ⟨b, 11, none⟩ = some (.int .i64 n.who) ∧ w.cell? ⟨b, 12, none⟩ = some vp ∧ w.cell? ⟨b, 13, none⟩ = some vo ∧ w.cell? ⟨b, 14, none⟩ = some vv) ∧ w.cell? ⟨b, 15, none⟩ = some vh := by
  simp only [Nt.cells] at h
  simp [World.cell?, h]

set_option maxHeartbeats 4000000 in
theorem odd (frm kind : Int) (n : Nt) (F : Nat → Prop) (vp vo vv vh : Value) (W : World) (ht : Tab W) (hv : NoteV W F n vp vo vv vh) (hkd : 0 ≤ n.kind ∧ n.kind ≤ 255) (hlen : n.parts.length ≤ 1000000 ∧ n.ops.length ≤ 1000000 ∧ n.vec.length ≤ 1000000 ∧ n.hits.length ≤ 1000000) :
    Calls Tryd.prog 31 #[.int .i64 frm, .agg (n.cells vp vo vv vh), .int .u8 kind] W fun e w' => e = .returned (.bool (oddB frm n kind)) ∧ Below W.heap.size W w' := by
  obtain ⟨p0, q0, rfl, -, -, -, -⟩ := hv.parts.slice
  obtain ⟨p1, q1, rfl, -, -, -, -⟩ := id hv.ops
  obtain ⟨p2, q2, rfl, -, -, -, -⟩ := hv.vec.slice
  obtain ⟨p3, q3, rfl, -, -, -, -⟩ := id hv.hits
  obtain ⟨W1, hW1⟩ : ∃ W1, W1 = W.alloc (.cells (n.cells (.slice p0 n.parts.length q0) (.slice p1 n.ops.length q1) (.slice p2 n.vec.length q2) (.slice p3 n.hits.length q3)) 37) := ⟨_, rfl⟩
  have hB : Below W.heap.size W W1 := by rw [hW1]; exact (Below.refl _ _).alloc (Nat.le_refl _) _
  have y0 : W1.heap[W.heap.size]? = some (.cells (n.cells (.slice p0 n.parts.length q0) (.slice p1 n.ops.length q1) (.slice p2 n.vec.length q2) (.slice p3 n.hits.length q3)) 37 (0, 0)) := by rw [hW1]; exact heap_alloc_new _ _
  have R := Lib.hid (rightNote n F _ _ _ _ W1 (ht.below hB) (hv.below hB) hkd hlen)
  have BW := Lib.hid hB
  obtain ⟨⟨z0, z1, z2, z3, z4⟩, ⟨z5, z6, z7, z8, z9⟩, ⟨z10, z11, z12, z13, z14⟩, z15⟩ := note_get y0
  clear ht hv hkd hlen hB y0
  unfold Nt.cells at *
  unfold oddB
  cases hk : (n.kind != kind)
  · generalize rightN n = r at *
    cases r
    · skip
      go_enter Tryd.func31, Tryd.ntmps31
      go_wp2_with fail
      rw [← hW1]
      refine R.out.mono ?_
      rintro e w2 ⟨rfl, hb2⟩
      have B2 := Lib.hid (BW.out.trans (hb2.mono BW.out.size))
      clear hb2
      go_wp2_with fail
      go_ret
      exact ⟨ret_bool (by simp), B2.out⟩
    · by_cases h1 : frm < 0
      · have d1 : decide (frm < 0) = true := by simp [h1]
        rw [d1]
        go_enter Tryd.func31, Tryd.ntmps31
        go_wp2_with fail
        rw [← hW1]
        refine R.out.mono ?_
        rintro e w2 ⟨rfl, hb2⟩
        have B2 := Lib.hid (BW.out.trans (hb2.mono BW.out.size))
        clear hb2
        go_wp2_with fail
        go_ret
        exact ⟨ret_bool (by simp), B2.out⟩
      · have d1 : decide (frm < 0) = false := by simp [h1]
        by_cases h2 : 16 ≤ frm
        · have d2 : decide (16 ≤ frm) = true := by simp [h2]
          rw [d1, d2]
          go_enter Tryd.func31, Tryd.ntmps31
          go_wp2_with fail
          rw [← hW1]
          refine R.out.mono ?_
          rintro e w2 ⟨rfl, hb2⟩
          have B2 := Lib.hid (BW.out.trans (hb2.mono BW.out.size))
          clear hb2
          go_wp2_with fail
          go_ret
          exact ⟨ret_bool (by simp), B2.out⟩
        · have d2 : decide (16 ≤ frm) = false := by simp [h2]
          rw [d1, d2]
          go_enter Tryd.func31, Tryd.ntmps31
          go_wp2_with fail
          rw [← hW1]
          refine R.out.mono ?_
          rintro e w2 ⟨rfl, hb2⟩
          have B2 := Lib.hid (BW.out.trans (hb2.mono BW.out.size))
          clear hb2
          go_wp2_with fail
          go_ret
          exact ⟨ret_bool (by simp), B2.out⟩
  · go_enter Tryd.func31, Tryd.ntmps31
    go_wp2_with fail
    rw [← hW1]
    go_ret
    exact ⟨ret_bool (by simp), BW.out⟩

end Go.Proofs.YtfmlhdikagogcaaDoor
