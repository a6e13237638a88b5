/-
  gather: the looks to those that have not told: the walk.
-/
import Derived.Test.YtfmlhdikagogcaaDoorJ15
namespace Go.Proofs.YtfmlhdikagogcaaDoor
open Go.RowKit
set_option maxRecDepth 20000

theorem zeroHits (w : World) : (zeroValue 35).run Tryd.prog w = .ok (.slice none 0 0) w := by kernel_rfl
theorem koInt : KeyOf Tryd.prog 3 (Value.int .i64) := int_keyOf Tryd.underlying3

/-- the cells of a question, one by one -/
theorem QAt.get {w : World} {R : Nat → Prop} {b mb : Nat} {q : Qs} {vp vo vv vh pv : Value} (h : QAt w R b mb q vp vo vv vh pv) :
    (w.cell? ⟨b, 0, none⟩ = some (.int .u8 q.note.kind) ∧ w.cell? ⟨b, 1, none⟩ = some (.int .u64 q.note.txn) ∧ w.cell? ⟨b, 2, none⟩ = some (.int .u64 q.note.batch) ∧ w.cell? ⟨b, 3, none⟩ = some (.int .u64 q.note.stamp) ∧ w.cell? ⟨b, 4, none⟩ = some (.int .u64 q.note.after)) ∧
    (w.cell? ⟨b, 5, none⟩ = some (.int .u64 q.note.mark) ∧ w.cell? ⟨b, 6, none⟩ = some (.int .u64 q.note.query) ∧ w.cell? ⟨b, 7, none⟩ = some (.int .u64 q.note.id) ∧ w.cell? ⟨b, 8, none⟩ = some (.int .i64 q.note.k) ∧ w.cell? ⟨b, 9, none⟩ = some (.int .i64 q.note.ef)) ∧
    (w.cell? ⟨b, 10, none⟩ = some (.int .i64 q.note.code) ∧ w.cell? ⟨b, 11, none⟩ = some (.int .i64 q.note.who) ∧ w.cell? ⟨b, 12, none⟩ = some vp ∧ w.cell? ⟨b, 13, none⟩ = some vo ∧ w.cell? ⟨b, 14, none⟩ = some vv) ∧
    (w.cell? ⟨b, 15, none⟩ = some vh ∧ w.cell? ⟨b, 16, none⟩ = some (.int .i64 q.who) ∧ w.cell? ⟨b, 17, none⟩ = some (.int .u64 q.query) ∧ w.cell? ⟨b, 18, none⟩ = some pv ∧ w.cell? ⟨b, 19, none⟩ = some (.map (some mb))) :=
  have c := h.cells
  ⟨⟨c 0 _ rfl, c 1 _ rfl, c 2 _ rfl, c 3 _ rfl, c 4 _ rfl⟩, ⟨c 5 _ rfl, c 6 _ rfl, c 7 _ rfl, c 8 _ rfl, c 9 _ rfl⟩, ⟨c 10 _ rfl, c 11 _ rfl, c 12 _ rfl, c 13 _ rfl, c 14 _ rfl⟩, ⟨c 15 _ rfl, c 16 _ rfl, c 17 _ rfl, c 18 _ rfl, c 19 _ rfl⟩⟩

/-- a note that has nothing but a vector, with another one's value -/
theorem NoteM.swap {w w' : World} {F : Nat → Prop} {n : Nt} {vp vo vv vh uu : Value} (h : NoteM w F n vp vo vv vh) (e : n.parts = [] ∧ n.ops = [] ∧ n.hits = []) (hu : Nums w' .i32 uu n.vec) : NoteM w' (fun k => uu.ownBlock = some k) n vp vo uu vh := by
  obtain ⟨e1, e2, e3⟩ := e
  refine ⟨⟨?_, ?_, hu, ?_⟩, fun hn => absurd hn (by rw [e1]; simp), fun _ b hb => hb⟩
  · have := h.read.parts
    rw [e1] at this ⊢
    obtain ⟨p, c, hv, a, b, d, -⟩ := this.slice
    subst hv
    exact Nums.mk a b d fun j hj => absurd hj (by simp)
  · have := h.read.ops
    rw [e2] at this ⊢
    obtain ⟨p, c, hv, a, b, d, -⟩ := this
    exact ⟨p, c, hv, a, b, d, fun i hi => absurd hi (by simp)⟩
  · have := h.read.hits
    rw [e3] at this ⊢
    obtain ⟨p, c, hv, a, b, d, -⟩ := this
    exact ⟨p, c, hv, a, b, d, fun i hi => absurd hi (by simp)⟩

set_option maxHeartbeats 4000000 in
theorem looks (q : Qs) (R : Nat → Prop) (b mb : Nat) (vp vo vv vh pv : Value) (w : World) (h : QAt w R b mb q vp vo vv vh pv) (hn : q.parts.length ≤ 1000) (hx : q.note.vec.length ≤ 1000000) :
    Calls Tryd.prog 32 #[.pointer (some ⟨b, 0, none⟩)] w (NewMails w 44 R (looksZ q)) := by
  obtain ⟨pp, pc, rfl, -, -, -, -⟩ := h.parts.slice
  obtain ⟨p3, c3, rfl, -, -, -, -⟩ := h.note.read.vec.slice
  obtain ⟨p1, c1, rfl, -, -, -, -⟩ := h.note.read.parts.slice
  obtain ⟨p2, c2, rfl, -, -, -, -⟩ := id h.note.read.ops
  obtain ⟨p4, c4, rfl, -, -, -, -⟩ := id h.note.read.hits
  have H := Lib.hid h
  have X := Lib.hid hx
  have PN := Lib.hid hn
  obtain ⟨⟨z0, z1, z2, z3, z4⟩, ⟨z5, z6, z7, z8, z9⟩, ⟨z10, z11, z12, z13, z14⟩, ⟨z15, -, -, z18, z19⟩⟩ := h.get
  have hl : q.parts.length ≤ 9223372036854775807 := by omega
  clear h hx hn
  go_enter Tryd.func32, Tryd.ntmps32
  go_wp2_with fail
  go_loopg [3, 14] q.parts.length (fun m out i wr => ∃ (k : Nat) (rs : List Mv) (F : Nat → Prop), m = q.parts.length - k ∧ k ≤ q.parts.length ∧ i = .int .i64 k ∧ rs.length ≤ k ∧ wr.ownsRow w.heap.size 44 17 out rs.length (flatM rs) ∧ rs.map Mv.says = looksZ {q with parts := q.parts.take k} ∧ MailF wr F rs ∧ (∀ k, F k → k < wr.heap.size ∧ out.ownBlock ≠ some k ∧ (w.heap.size ≤ k ∨ R k)) ∧ Below w.heap.size w wr)
  case atStart => exact ⟨0, [], fun _ => False, rfl, by omega, rfl, Nat.le_refl _, World.ownsRow_nil _ _ _ _, rfl, fun r hr => absurd hr (by simp), fun _ h => h.elim, Below.refl _ _⟩
  case round =>
    obtain ⟨k, rs, F, rfl, hk, rfl, hlen, hown, hsay, hm, hF, hb⟩ := hrel
    by_cases hlt : k < q.parts.length
    · obtain ⟨bb, off, hpp, hc⟩ := (H.out.below hb).parts.elem hlt
      subst hpp
      obtain ⟨L, hM, hT⟩ := (H.out.below hb).told
      replace z0 := below_cells hb z0
      replace z1 := below_cells hb z1
      replace z2 := below_cells hb z2
      replace z3 := below_cells hb z3
      replace z4 := below_cells hb z4
      replace z5 := below_cells hb z5
      replace z6 := below_cells hb z6
      replace z7 := below_cells hb z7
      replace z8 := below_cells hb z8
      replace z9 := below_cells hb z9
      replace z10 := below_cells hb z10
      replace z11 := below_cells hb z11
      replace z12 := below_cells hb z12
      replace z13 := below_cells hb z13
      replace z14 := below_cells hb z14
      replace z15 := below_cells hb z15
      replace z18 := below_cells hb z18
      replace z19 := below_cells hb z19
      have hlk := run_look koInt Tryd.underlying83 hM (zeroHits wr) q.parts[k] true
      have TK := Lib.hid (looks_take q k hlt)
      have O := Lib.hid (And.intro hown (And.intro hsay (And.intro hm (And.intro hF hb))))
      have LN := Lib.hid hlen
      rcases told_get hT q.parts[k] with ⟨t1, t2⟩ | ⟨t1, v, x, t2, -, -, -, hv⟩
      · rw [t2] at hlk
        simp only [if_true, Option.getD_none, Option.isSome_none] at hlk
        rw [t1] at TK
        clear hM hT t1 t2 hown hsay hm hF hb hlen
        have hsz := O.out.2.2.2.2.size
        go_wp2_with fail
        obtain ⟨W3, hW3⟩ : ∃ W3, W3 = wr.alloc (.cells #[.int .u8 q.note.kind, .int .u64 q.note.txn, .int .u64 q.note.batch, .int .u64 q.note.stamp, .int .u64 q.note.after, .int .u64 q.note.mark, .int .u64 q.note.query, .int .u64 q.note.id, .int .i64 q.note.k, .int .i64 q.note.ef, .int .i64 q.note.code, .int .i64 q.note.who, .slice p1 q.note.parts.length c1, .slice p2 q.note.ops.length c2, .slice p3 q.note.vec.length c3, .slice p4 q.note.hits.length c4] 37) := ⟨_, rfl⟩
        have BW : Hid (Below wr.heap.size wr W3) := by rw [hW3]; exact (Below.refl _ _).alloc (Nat.le_refl _) _
        have hs3 : W3.heap.size = wr.heap.size + 1 := by rw [hW3]; simp
        have y0 : W3.heap[wr.heap.size]? = some (.cells #[.int .u8 q.note.kind, .int .u64 q.note.txn, .int .u64 q.note.batch, .int .u64 q.note.stamp, .int .u64 q.note.after, .int .u64 q.note.mark, .int .u64 q.note.query, .int .u64 q.note.id, .int .i64 q.note.k, .int .i64 q.note.ef, .int .i64 q.note.code, .int .i64 q.note.who, .slice p1 q.note.parts.length c1, .slice p2 q.note.ops.length c2, .slice p3 q.note.vec.length c3, .slice p4 q.note.hits.length c4] 37 (0, 0)) := by rw [hW3]; exact heap_alloc_new _ _
        rw [← hW3]
        refine (clone q.note.vec _ _ ((H.out.note.read.vec.below O.out.2.2.2.2).below BW.out) X.out).mono ?_
        rintro e w4 ⟨u4, rfl, hu4, hb4⟩
        obtain ⟨q4, n4, k4, rfl⟩ := own_form hu4
        have y4 := (hb4.block wr.heap.size (by omega)).trans y0
        have x0 : w4.cell? ⟨wr.heap.size, 0, none⟩ = some (.int .u8 q.note.kind) := by simp [World.cell?, y4]
        have x1 : w4.cell? ⟨wr.heap.size, 1, none⟩ = some (.int .u64 q.note.txn) := by simp [World.cell?, y4]
        have x2 : w4.cell? ⟨wr.heap.size, 2, none⟩ = some (.int .u64 q.note.batch) := by simp [World.cell?, y4]
        have x3 : w4.cell? ⟨wr.heap.size, 3, none⟩ = some (.int .u64 q.note.stamp) := by simp [World.cell?, y4]
        have x4 : w4.cell? ⟨wr.heap.size, 4, none⟩ = some (.int .u64 q.note.after) := by simp [World.cell?, y4]
        have x5 : w4.cell? ⟨wr.heap.size, 5, none⟩ = some (.int .u64 q.note.mark) := by simp [World.cell?, y4]
        have x6 : w4.cell? ⟨wr.heap.size, 6, none⟩ = some (.int .u64 q.note.query) := by simp [World.cell?, y4]
        have x7 : w4.cell? ⟨wr.heap.size, 7, none⟩ = some (.int .u64 q.note.id) := by simp [World.cell?, y4]
        have x8 : w4.cell? ⟨wr.heap.size, 8, none⟩ = some (.int .i64 q.note.k) := by simp [World.cell?, y4]
        have x9 : w4.cell? ⟨wr.heap.size, 9, none⟩ = some (.int .i64 q.note.ef) := by simp [World.cell?, y4]
        have x10 : w4.cell? ⟨wr.heap.size, 10, none⟩ = some (.int .i64 q.note.code) := by simp [World.cell?, y4]
        have x11 : w4.cell? ⟨wr.heap.size, 11, none⟩ = some (.int .i64 q.note.who) := by simp [World.cell?, y4]
        have x12 : w4.cell? ⟨wr.heap.size, 12, none⟩ = some (.slice p1 q.note.parts.length c1) := by simp [World.cell?, y4]
        have x13 : w4.cell? ⟨wr.heap.size, 13, none⟩ = some (.slice p2 q.note.ops.length c2) := by simp [World.cell?, y4]
        have x14 : w4.cell? ⟨wr.heap.size, 14, none⟩ = some (.slice p3 q.note.vec.length c3) := by simp [World.cell?, y4]
        have x15 : w4.cell? ⟨wr.heap.size, 15, none⟩ = some (.slice p4 q.note.hits.length c4) := by simp [World.cell?, y4]
        have fz : w4.frozen? ⟨wr.heap.size, 14, none⟩ = false := by simp [World.frozen?, y4]
        obtain ⟨W5, hW5⟩ : ∃ W5, W5 = w4.setCell ⟨wr.heap.size, 14, none⟩ (.slice q4 n4 k4) := ⟨_, rfl⟩
        have b35 := Lib.hid (BW.out.trans (hb4.mono (by omega)))
        have b5 : Hid (Below wr.heap.size wr W5) := Lib.hid (by rw [hW5]; exact Below.setCell b35.out (Nat.le_refl _) _)
        have hu5 : Hid (W5.ownsRow W3.heap.size 21 1 (.slice q4 n4 k4) q.note.vec.length (q.note.vec.map (Value.int .i32))) := Lib.hid (by rw [hW5]; exact hu4.kept (grownBy_setCells wr.heap.size [.slice q4 n4 k4] 14 w4) (by right; intro e; have := (hu4.lt _ e).1; omega))
        have hn5 : Hid (NoteM W5 (fun k => (Value.slice q4 n4 k4).ownBlock = some k) q.note (.slice p1 q.note.parts.length c1) (.slice p2 q.note.ops.length c2) (.slice q4 n4 k4) (.slice p4 q.note.hits.length c4)) := Lib.hid (H.out.note.swap H.out.empty (Nums.of_own hu5.out))
        obtain ⟨g6, c6, w6, hrun, hown6, hg6, hat6, hlt6⟩ := run_push rowMail (own_below O.out.1 b5.out) (by have := b5.out.size; omega) #[.int .i64 q.parts[k], .int .u8 q.note.kind, .int .u64 q.note.txn, .int .u64 q.note.batch, .int .u64 q.note.stamp, .int .u64 q.note.after, .int .u64 q.note.mark, .int .u64 q.note.query, .int .u64 q.note.id, .int .i64 q.note.k, .int .i64 q.note.ef, .int .i64 q.note.code, .int .i64 q.note.who, .slice p1 q.note.parts.length c1, .slice p2 q.note.ops.length c2, .slice q4 n4 k4, .slice p4 q.note.hits.length c4] rfl (by simp [Value.oneCell']) (by have := LN.out; have := PN.out; simp [maxLen]; omega) (by have := LN.out; have := PN.out; omega)
        obtain ⟨F', f1, f2, f3, f4⟩ := mails_step (m := ⟨q.parts[k], q.note, .slice p1 q.note.parts.length c1, .slice p2 q.note.ops.length c2, .slice q4 n4 k4, .slice p4 q.note.hits.length c4⟩) O.out.1 rfl O.out.2.2.1 O.out.2.2.2.1 O.out.2.2.2.2 hn5.out hu5.out (by omega) b5.out hown6 hg6 hat6 hlt6
        have FF := Lib.hid (And.intro f1 (And.intro f2 (And.intro f3 f4)))
        clear f1 f2 f3 f4 hown6 hg6 hat6 hlt6 hu4 hb4 y4 y0 hs3 z0 z1 z2 z3 z4 z5 z6 z7 z8 z9 z10 z11 z12 z13 z14 z15 z18 z19 hlk hW3
        have hz5 : W5.heap.size = w4.heap.size := by rw [hW5]; simp [World.setCell]
        rw [hz5, hW5] at hrun
        go_wp2_with (with_reducible refine wpList_append_eq hrun rfl _ _ rfl rfl rfl ?_)
        go_roundg (q.parts.length - (k + 1))
        case measure => omega
        case rel => exact ⟨k + 1, _, F', rfl, by omega, by go_num, by have := LN.out; simp; omega, FF.out.1, by rw [List.map_append, O.out.2.1, TK.out]; rfl, FF.out.2.1, FF.out.2.2.1, FF.out.2.2.2⟩
      · obtain ⟨vp', vc', rfl, -⟩ := id hv
        rw [t2] at hlk
        simp only [if_true, Option.getD_some, Option.isSome_some] at hlk
        rw [t1] at TK
        clear hM hT t1 t2 hv hown hsay hm hF hb hlen
        go_wp2_with fail
        go_roundg (q.parts.length - (k + 1))
        case measure => omega
        case rel => exact ⟨k + 1, rs, F, rfl, by omega, by go_num, by have := LN.out; omega, O.out.1, by rw [O.out.2.1, TK.out]; simp, O.out.2.2.1, O.out.2.2.2.1, O.out.2.2.2.2⟩
    · obtain rfl : k = q.parts.length := by omega
      go_wp2_with fail
      go_ret
      exact ⟨_, rs, F, rfl, hown, by rw [hsay, List.take_length], hm, hF, hb⟩

end Go.Proofs.YtfmlhdikagogcaaDoor
