/-
  note: the document's Same, of a note and itself.
-/
import Derived.Test.YtfmlhdikagogcaaDoorJ01
import Derived.Test.YtfmlhdikagogcaaDoorJ09
import Derived.Test.YtfmlhdikagogcaaDoorJ25
namespace Go.Proofs.YtfmlhdikagogcaaDoor
open Go.RowKit
set_option maxRecDepth 20000

set_option maxHeartbeats 4000000 in
theorem sameNote (n : Nt) (F G : Nat → Prop) (vp vo vv vh up uo uv uh : Value) (w : World) (h : NoteV w F n vp vo vv vh) (g : NoteV w G n up uo uv uh) :
    Calls Tryd.prog 29 #[.agg (n.cells vp vo vv vh), .agg (n.cells up uo uv uh)] w fun e w' => e = .returned (.bool true) ∧ Below w.heap.size w w' := by
  obtain ⟨p0, q0, rfl, -, -, -, -⟩ := h.parts.slice
  obtain ⟨p1, q1, rfl, -, -, -, -⟩ := id h.ops
  obtain ⟨p2, q2, rfl, -, -, -, -⟩ := h.vec.slice
  obtain ⟨p3, q3, rfl, -, -, -, -⟩ := id h.hits
  obtain ⟨s0, t0, rfl, a0, b0, -, -⟩ := g.parts.slice
  obtain ⟨s1, t1, rfl, -, -, -, -⟩ := id g.ops
  obtain ⟨s2, t2, rfl, -, -, -, -⟩ := g.vec.slice
  obtain ⟨s3, t3, rfl, -, -, -, -⟩ := id g.hits
  have l0 : n.parts.length ≤ 9223372036854775807 := by omega
  have HH := Lib.hid (And.intro h g)
  clear h g a0 b0
  obtain ⟨A, hA⟩ : ∃ A : Array Value, A = n.cells (.slice p0 n.parts.length q0) (.slice p1 n.ops.length q1) (.slice p2 n.vec.length q2) (.slice p3 n.hits.length q3) := ⟨_, rfl⟩
  obtain ⟨B, hB⟩ : ∃ B : Array Value, B = n.cells (.slice s0 n.parts.length t0) (.slice s1 n.ops.length t1) (.slice s2 n.vec.length t2) (.slice s3 n.hits.length t3) := ⟨_, rfl⟩
  rw [← hA, ← hB]
  have HA := Lib.hid hA
  have HB := Lib.hid hB
  clear hA hB
  go_enter Tryd.func29, Tryd.ntmps29
  go_upto_region 1 with fail
  obtain ⟨W, hW⟩ : ∃ W, W = (w.alloc (.cells A 53)).alloc (.cells B 53) := ⟨_, rfl⟩
  have ya : W.heap[w.heap.size]? = some (.cells A 53 (0, 0)) := by rw [hW, heap_alloc_old _ _ (by simp)]; exact heap_alloc_new _ _
  have yb : W.heap[w.heap.size + 1]? = some (.cells B 53 (0, 0)) := by
    rw [hW]
    have := heap_alloc_new (w.alloc (.cells A 53)) (.cells B 53)
    rwa [World.size_alloc] at this
  have bw : Below w.heap.size w W := by rw [hW]; exact ((Below.refl _ _).alloc (Nat.le_refl _) _).alloc (by simp) _
  rw [← hW]
  rw [HA.out] at ya
  rw [HB.out] at yb
  obtain ⟨⟨z0, z1, z2, z3, z4⟩, ⟨z5, z6, z7, z8, z9⟩, ⟨z10, z11, z12, z13, z14⟩, z15⟩ := note_get ya
  obtain ⟨⟨y0, y1, y2, y3, y4⟩, ⟨y5, y6, y7, y8, y9⟩, ⟨y10, y11, y12, y13, y14⟩, y15⟩ := note_get yb
  have BW := Lib.hid bw
  have YY := Lib.hid (And.intro ya yb)
  clear hW ya yb bw
  go_upto_region 3 with fail
  clear z0 z1 z2 z3 z4 z5 z6 z7 z8 z9 z10 z11 z13 z14 z15 y0 y1 y2 y3 y4 y5 y6 y7 y8 y9 y10 y11 y13 y14 y15
  go_wp2_with fail
  go_loopg [100] n.parts.length (fun m i wr => ∃ k : Nat, m = n.parts.length - k ∧ k ≤ n.parts.length ∧ i = .int .i64 k ∧ Drawn W wr)
  case atStart => exact ⟨0, rfl, by omega, rfl, Drawn.refl _⟩
  case round =>
    obtain ⟨k, rfl, hk, rfl, hd⟩ := hrel
    have D := Lib.hid hd
    have BD := Lib.hid (BW.out.trans (hd.below.mono BW.out.size))
    by_cases hlt : k < n.parts.length
    · obtain ⟨b, off, rfl, hcell⟩ := (HH.out.1.parts.below BD.out).elem hlt
      obtain ⟨b', off', rfl, hcell'⟩ := (HH.out.2.parts.below BD.out).elem hlt
      have z12 := below_cells hd.below z12
      have y12 := below_cells hd.below y12
      clear hd
      go_wp2
      go_quiet (fail)
      go_wp2
      go_roundg (n.parts.length - (k + 1))
      case measure => omega
      case rel => exact ⟨k + 1, rfl, by omega, by go_num, D.out.drewN _⟩
    · obtain rfl : k = n.parts.length := by omega
      have ya := (hd.below.block _ (lt_block YY.out.1)).trans YY.out.1
      have yb := (hd.below.block _ (lt_block YY.out.2)).trans YY.out.2
      obtain ⟨-, -, ⟨-, -, -, z13, z14⟩, z15⟩ := note_get ya
      obtain ⟨-, -, ⟨-, -, -, y13, y14⟩, y15⟩ := note_get yb
      have SO := Lib.hid (sameOps n.ops n.ops _ _ wr (HH.out.1.ops.recs.below BD.out) (HH.out.2.ops.recs.below BD.out))
      have eo : decide (n.ops = n.ops) = true := by simp
      rw [eo] at SO
      clear ya yb hd eo z12 y12
      go_wp2_with fail
      with_reducible refine SO.out.mono ?_
      rintro e w2 ⟨rfl, hd2⟩
      have B2 := Lib.hid (BD.out.trans (hd2.below.mono BD.out.size))
      have z14 := below_cells hd2.below z14
      have z15 := below_cells hd2.below z15
      have y14 := below_cells hd2.below y14
      have y15 := below_cells hd2.below y15
      have SV := Lib.hid (sameVecQ n.vec n.vec _ _ w2 (HH.out.1.vec.below B2.out) (HH.out.2.vec.below B2.out))
      have ev : decide (n.vec = n.vec) = true := by simp
      rw [ev] at SV
      clear hd2 ev
      go_wp2_with fail
      with_reducible refine SV.out.mono ?_
      rintro e w3 ⟨rfl, hd3⟩
      have B3 := Lib.hid (B2.out.trans (hd3.below.mono B2.out.size))
      have z15 := below_cells hd3.below z15
      have y15 := below_cells hd3.below y15
      have SH := Lib.hid (sameHits _ _ n.hits n.hits _ _ w3 (HH.out.1.hits.below B3.out) (HH.out.2.hits.below B3.out))
      have eh : decide (n.hits = n.hits) = true := by simp
      rw [eh] at SH
      clear hd3 eh
      go_wp2_with fail
      with_reducible refine SH.out.mono ?_
      rintro e w4 ⟨rfl, hd4⟩
      have B4 := Lib.hid (B3.out.trans (hd4.below.mono B3.out.size))
      clear hd4
      go_wp2_with fail
      go_ret
      exact ⟨rfl, B4.out⟩

end Go.Proofs.YtfmlhdikagogcaaDoor
