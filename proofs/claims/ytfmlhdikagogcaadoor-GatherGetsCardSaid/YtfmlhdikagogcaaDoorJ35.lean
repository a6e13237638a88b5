/-
  best's document: all but one; the worst.
  best's document: a list in memory; its worst.
-/
import Derived.Test.YtfmlhdikagogcaaDoorJ34
namespace Go.Proofs.YtfmlhdikagogcaaDoor
open Go.RowKit
set_option maxRecDepth 20000

/-- a row of the call's own, all but one -/
def NewBut (w : World) (G : Nat → Prop) (l : List Hz) (e : Ending) (w' : World) : Prop :=
  ∃ v rs, e = .returned v ∧ w'.ownsRow w.heap.size 40 3 v rs.length (flat3 rs) ∧ Rows3 w' G rs l ∧ Below w.heap.size w w'

theorem rows_one {w : World} {G : Nat → Prop} {rs : List Hv} {l : List Hz} (h : Rows3 w G rs l) : ∀ r ∈ rs, r.vec.oneCell' = true := by
  intro r hr
  obtain ⟨i, hi, rfl⟩ := List.mem_iff_getElem.1 hr
  have := (h.each i hi (by rw [← h.len]; exact hi)).2.2.1
  obtain ⟨p, cap, e, -⟩ := this.slice
  rw [e]; rfl

theorem SrcAt.sub {w : World} {b off m c : Nat} {rs : List Hv} (h : SrcAt w (some ⟨b, off, none⟩) m c 3 (flat3 rs)) (a k : Nat) (c' : Nat) (hk : a + k ≤ rs.length) : SrcAt w (some ⟨b, off + a * 3, none⟩) k c' 3 (flat3 ((rs.drop a).take k)) := by
  refine ⟨by rw [flat3_length, List.length_take, List.length_drop]; rw [Nat.min_eq_left (by omega)], by simp, fun ad ha j u hj => ?_⟩
  obtain rfl := Option.some.inj ha
  have hjl := (List.getElem?_eq_some_iff.1 hj).1
  rw [flat3_length, List.length_take, List.length_drop, Nat.min_eq_left (by omega)] at hjl
  rw [← flat3_take, ← flat3_drop, List.getElem?_take, if_pos (by omega), List.getElem?_drop] at hj
  have := h.cells _ rfl _ _ hj
  rw [Addr.add_lit] at this ⊢
  rw [Nat.add_assoc]; exact this

theorem but_end {w w' : World} {G : Nat → Prop} {rs : List Hv} {l : List Hz} {k n : Nat} {v : Value} (hr : Rows3 w G rs l) (hk : k < rs.length) (hlen : rs.length = l.length) (ho : w'.ownsRow w.heap.size 40 3 v n (flat3 ((rs.drop 0).take k) ++ flat3 ((rs.drop (k + 1)).take (l.length - (k + 1))))) (hn : n = k + (l.length - (k + 1))) (hb : Below w.heap.size w w') : NewBut w G (l.eraseIdx k) (.returned v) w' := by
  have e : (rs.drop 0).take k ++ (rs.drop (k + 1)).take (l.length - (k + 1)) = rs.eraseIdx k := by
    rw [List.eraseIdx_eq_take_drop_succ, List.drop_zero, List.take_of_length_le (l := rs.drop (k + 1)) (by rw [List.length_drop]; omega)]
  rw [← flat3_append, e] at ho
  have hl : (rs.eraseIdx k).length = n := by rw [List.length_eraseIdx_of_lt hk]; omega
  refine ⟨v, rs.eraseIdx k, rfl, by rw [hl]; exact ho, ?_, hb⟩
  have h1 := hr.below hb
  refine ⟨by rw [List.length_eraseIdx, List.length_eraseIdx, hlen], fun i i1 i2 => ?_⟩
  rw [List.getElem_eraseIdx, List.getElem_eraseIdx]
  split
  · exact h1.each i _ _
  · exact h1.each (i + 1) _ _

set_option maxHeartbeats 4000000 in
theorem without (l : List Hz) (k : Nat) (hk : k < l.length) (hn : l.length ≤ 1000000) (G : Nat → Prop) (v : Value) (w : World) (h : HitsF w G v l) :
    Calls Tryd.prog 64 #[v, .int .i64 k] w (NewBut w G (l.eraseIdx k)) := by
  obtain ⟨p, cap, rfl, hc1, hc2, -, -⟩ := id h
  obtain ⟨rs, hrs, hsrc, hel⟩ := h.rows
  obtain ⟨b, off, -, -, -, rfl, -⟩ := hel k hk
  have hlen := hrs.len
  have S1 := Lib.hid (hsrc.sub 0 k cap (by omega))
  have S2 := Lib.hid (hsrc.sub (k + 1) (l.length - (k + 1)) (cap - (k + 1)) (by omega))
  have ONE := Lib.hid (rows_one hrs)
  have RR := Lib.hid hrs
  have k0 : (0 : Int) ≤ (k : Int) := by omega
  have k1 : (k : Int) ≤ (cap : Int) := by omega
  have k2 : (k : Int) < (l.length : Int) := by omega
  have k3 : ((k : Int) + 1) ≤ (l.length : Int) := by omega
  have k4 : IntKind.i64.wrap ((k : Int) + 1) = (k : Int) + 1 := by simp [IntKind.wrap, IntKind.signed, IntKind.bits] <;> omega
  have k5 : (0 : Int) ≤ (k : Int) + 1 := by omega
  have k6 : ((k : Int) + 1).toNat = k + 1 := by omega
  clear h hrs hsrc hel
  go_enter Tryd.func64, Tryd.ntmps64
  go_wp2_with fail
  obtain ⟨W0, hW0⟩ : ∃ W0, W0 = w.drew := ⟨_, rfl⟩
  have hb0 : Below w.heap.size w W0 := by rw [hW0]; exact (Below.refl _ _).drew
  have HW := Lib.hid hW0
  clear hW0
  by_cases hcap : cap = k + 1
  · subst hcap
    have k7 : (k : Int) ≤ (k : Int) + 1 := by omega
    replace S2 : Hid (SrcAt w (some ⟨b, off, none⟩) 0 0 3 (flat3 ((rs.drop (k + 1)).take (l.length - (k + 1))))) := by
      have e : l.length - (k + 1) = 0 := by omega
      rw [e]
      exact ⟨by simp [flat3], by simp, fun a _ j u hj => by simp [flat3] at hj⟩
    refine region_go (fun _ => True) (by kernel_rfl) ?hS0 (fun hH => ?_)
    case hS0 =>
      trivial
    rw [← HW.out]
    refine tkY (v := ?_) 1 hH rfl (fun _ _ _ h => h) ?hc ?hw ?hy ?_
    case hc => decide +kernel
    case hw => rfl
    case hy => (intro w hS; (try dsimp only at hS); go_simp; try with_reducible rfl)
    (try simp only [Act.put]); (repeat (first | simp only [List.setIfInBounds_toArray] | simp only [List.set_cons_zero] | simp only [List.set_cons_succ]))
    refine tkY (v := ?_) 2 hH rfl (fun _ _ _ h => h) ?hc ?hw ?hy ?_
    case hc => decide +kernel
    case hw => rfl
    case hy => (intro w hS; (try dsimp only at hS); go_simp; try with_reducible rfl)
    (try simp only [Act.put]); (repeat (first | simp only [List.setIfInBounds_toArray] | simp only [List.set_cons_zero] | simp only [List.set_cons_succ]))
    refine tkY (v := ?_) 3 hH rfl (fun _ _ _ h => h) ?hc ?hw ?hy ?_
    case hc => decide +kernel
    case hw => rfl
    case hy => (intro w hS; (try dsimp only at hS); go_simp; try with_reducible rfl)
    (try simp only [Act.put]); (repeat (first | simp only [List.setIfInBounds_toArray] | simp only [List.set_cons_zero] | simp only [List.set_cons_succ]))
    refine tkY (v := ?_) 5 hH rfl (fun _ _ _ h => h) ?hc ?hw ?hy ?_
    case hc => decide +kernel
    case hw => rfl
    case hy => (intro w hS; (try dsimp only at hS); go_simp; try with_reducible rfl)
    (try simp only [Act.put]); (repeat (first | simp only [List.setIfInBounds_toArray] | simp only [List.set_cons_zero] | simp only [List.set_cons_succ]))
    refine tkY (v := ?_) 6 hH rfl (fun _ _ _ h => h) ?hc ?hw ?hy ?_
    case hc => decide +kernel
    case hw => rfl
    case hy => (intro w hS; (try dsimp only at hS); go_simp; try with_reducible rfl)
    (try simp only [Act.put]); (repeat (first | simp only [List.setIfInBounds_toArray] | simp only [List.set_cons_zero] | simp only [List.set_cons_succ]))
    refine tkY (v := ?_) 7 hH rfl (fun _ _ _ h => h) ?hc ?hw ?hy ?_
    case hc => decide +kernel
    case hw => rfl
    case hy => (intro w hS; (try dsimp only at hS); go_simp; try with_reducible rfl)
    (try simp only [Act.put]); (repeat (first | simp only [List.setIfInBounds_toArray] | simp only [List.set_cons_zero] | simp only [List.set_cons_succ]))
    refine tkY (v := ?_) 8 hH rfl (fun _ _ _ h => h) ?hc ?hw ?hy ?_
    case hc => decide +kernel
    case hw => rfl
    case hy => (intro w hS; (try dsimp only at hS); go_simp; try with_reducible rfl)
    (try simp only [Act.put]); (repeat (first | simp only [List.setIfInBounds_toArray] | simp only [List.set_cons_zero] | simp only [List.set_cons_succ]))
    refine spk 0 rfl ?hr ?hw (fun K' hK => ?_)
    case hr => decide +kernel
    case hw => rfl
    go_simp
    have hr0 := own_empty W0 w.heap.size 40 3 hb0.size
    have hb1 := hb0.alloc hb0.size (.cells #[] 40)
    try dsimp only
    refine hK.out _ _ ?hS (fun hH' => ?_)
    case hS =>
      trivial
    clear hK K' hH; have hH := hH'; clear hH'; (try simp only [Act.put]); (repeat (first | simp only [List.setIfInBounds_toArray] | simp only [List.set_cons_zero] | simp only [List.set_cons_succ]))
    refine spk 4 rfl ?hr ?hw (fun K' hK => ?_)
    case hr => decide +kernel
    case hw => rfl
    obtain ⟨q2, n2, c2, w2, hrun2, hr2, hg2, -⟩ := run_app rowHit hr0 hb1.size (S1.out.below hb1) (flat3_one fun r hr => ONE.out r (List.mem_of_mem_drop (List.mem_of_mem_take hr))) (by simp [maxLen]; omega) (by omega)
    refine wp_append_eq hrun2 _ _ rfl rfl rfl ?_
    have hb2 := hb1.grown hg2 hb1.size (fun b hb => (hr0.lt b hb).1)
    simp only [Nat.zero_add, List.nil_append] at hr2
    try dsimp only
    refine hK.out _ _ ?hS (fun hH' => ?_)
    case hS =>
      trivial
    clear hK K' hH; have hH := hH'; clear hH'; (try simp only [Act.put]); (repeat (first | simp only [List.setIfInBounds_toArray] | simp only [List.set_cons_zero] | simp only [List.set_cons_succ]))
    refine spk 9 rfl ?hr ?hw (fun K' hK => ?_)
    case hr => decide +kernel
    case hw => rfl
    obtain ⟨q3, n3, c3, w3, hrun3, hr3, hg3, -⟩ := run_app rowHit hr2 hb2.size (S2.out.below hb2) (flat3_one fun r hr => ONE.out r (List.mem_of_mem_drop (List.mem_of_mem_take hr))) (by simp [maxLen]; omega) (by omega)
    refine wp_append_eq hrun3 _ _ rfl rfl rfl ?_
    have hb3 := hb2.grown hg3 hb2.size (fun b hb => (hr2.lt b hb).1)
    try dsimp only
    refine hK.out _ _ ?hS (fun hH' => ?_)
    case hS =>
      trivial
    clear hK K' hH; have hH := hH'; clear hH'; (try simp only [Act.put]); (repeat (first | simp only [List.setIfInBounds_toArray] | simp only [List.set_cons_zero] | simp only [List.set_cons_succ]))
    refine tkY (v := ?_) 10 hH rfl (fun _ _ _ h => h) ?hc ?hw ?hy ?_
    case hc => decide +kernel
    case hw => rfl
    case hy => (intro w hS; (try dsimp only at hS); go_simp; try with_reducible rfl)
    (try simp only [Act.put]); (repeat (first | simp only [List.setIfInBounds_toArray] | simp only [List.set_cons_zero] | simp only [List.set_cons_succ]))
    refine wpAnyH_done (by decide +kernel) ?_ _
    have E := Lib.hid (but_end RR.out (by omega) hlen hr3 (by omega) hb3)
    clear hr0 hr2 hr3 hb0 hb1 hb2 hb3 hH hrun2 hg2 hrun3 hg3
    go_wp2_with fail
    go_ret
    exact E.out
  · have hcap' : ¬ ((cap : Int) = (k : Int) + 1) := by omega
    refine region_go (fun _ => True) (by kernel_rfl) ?hS0 (fun hH => ?_)
    case hS0 =>
      trivial
    rw [← HW.out]
    refine tkY (v := ?_) 1 hH rfl (fun _ _ _ h => h) ?hc ?hw ?hy ?_
    case hc => decide +kernel
    case hw => rfl
    case hy => (intro w hS; (try dsimp only at hS); go_simp; try with_reducible rfl)
    (try simp only [Act.put]); (repeat (first | simp only [List.setIfInBounds_toArray] | simp only [List.set_cons_zero] | simp only [List.set_cons_succ]))
    refine tkY (v := ?_) 2 hH rfl (fun _ _ _ h => h) ?hc ?hw ?hy ?_
    case hc => decide +kernel
    case hw => rfl
    case hy => (intro w hS; (try dsimp only at hS); go_simp; try with_reducible rfl)
    (try simp only [Act.put]); (repeat (first | simp only [List.setIfInBounds_toArray] | simp only [List.set_cons_zero] | simp only [List.set_cons_succ]))
    refine tkY (v := ?_) 3 hH rfl (fun _ _ _ h => h) ?hc ?hw ?hy ?_
    case hc => decide +kernel
    case hw => rfl
    case hy => (intro w hS; (try dsimp only at hS); go_simp; try with_reducible rfl)
    (try simp only [Act.put]); (repeat (first | simp only [List.setIfInBounds_toArray] | simp only [List.set_cons_zero] | simp only [List.set_cons_succ]))
    refine tkY (v := ?_) 5 hH rfl (fun _ _ _ h => h) ?hc ?hw ?hy ?_
    case hc => decide +kernel
    case hw => rfl
    case hy => (intro w hS; (try dsimp only at hS); go_simp; try with_reducible rfl)
    (try simp only [Act.put]); (repeat (first | simp only [List.setIfInBounds_toArray] | simp only [List.set_cons_zero] | simp only [List.set_cons_succ]))
    refine tkY (v := ?_) 6 hH rfl (fun _ _ _ h => h) ?hc ?hw ?hy ?_
    case hc => decide +kernel
    case hw => rfl
    case hy => (intro w hS; (try dsimp only at hS); go_simp; try with_reducible rfl)
    (try simp only [Act.put]); (repeat (first | simp only [List.setIfInBounds_toArray] | simp only [List.set_cons_zero] | simp only [List.set_cons_succ]))
    refine tkY (v := ?_) 7 hH rfl (fun _ _ _ h => h) ?hc ?hw ?hy ?_
    case hc => decide +kernel
    case hw => rfl
    case hy => (intro w hS; (try dsimp only at hS); go_simp; try with_reducible rfl)
    (try simp only [Act.put]); (repeat (first | simp only [List.setIfInBounds_toArray] | simp only [List.set_cons_zero] | simp only [List.set_cons_succ]))
    refine tkY (v := ?_) 8 hH rfl (fun _ _ _ h => h) ?hc ?hw ?hy ?_
    case hc => decide +kernel
    case hw => rfl
    case hy => (intro w hS; (try dsimp only at hS); go_simp; try with_reducible rfl)
    (try simp only [Act.put]); (repeat (first | simp only [List.setIfInBounds_toArray] | simp only [List.set_cons_zero] | simp only [List.set_cons_succ]))
    refine spk 0 rfl ?hr ?hw (fun K' hK => ?_)
    case hr => decide +kernel
    case hw => rfl
    go_simp
    have hr0 := own_empty W0 w.heap.size 40 3 hb0.size
    have hb1 := hb0.alloc hb0.size (.cells #[] 40)
    try dsimp only
    refine hK.out _ _ ?hS (fun hH' => ?_)
    case hS =>
      trivial
    clear hK K' hH; have hH := hH'; clear hH'; (try simp only [Act.put]); (repeat (first | simp only [List.setIfInBounds_toArray] | simp only [List.set_cons_zero] | simp only [List.set_cons_succ]))
    refine spk 4 rfl ?hr ?hw (fun K' hK => ?_)
    case hr => decide +kernel
    case hw => rfl
    obtain ⟨q2, n2, c2, w2, hrun2, hr2, hg2, -⟩ := run_app rowHit hr0 hb1.size (S1.out.below hb1) (flat3_one fun r hr => ONE.out r (List.mem_of_mem_drop (List.mem_of_mem_take hr))) (by simp [maxLen]; omega) (by omega)
    refine wp_append_eq hrun2 _ _ rfl rfl rfl ?_
    have hb2 := hb1.grown hg2 hb1.size (fun b hb => (hr0.lt b hb).1)
    simp only [Nat.zero_add, List.nil_append] at hr2
    try dsimp only
    refine hK.out _ _ ?hS (fun hH' => ?_)
    case hS =>
      trivial
    clear hK K' hH; have hH := hH'; clear hH'; (try simp only [Act.put]); (repeat (first | simp only [List.setIfInBounds_toArray] | simp only [List.set_cons_zero] | simp only [List.set_cons_succ]))
    refine spk 9 rfl ?hr ?hw (fun K' hK => ?_)
    case hr => decide +kernel
    case hw => rfl
    obtain ⟨q3, n3, c3, w3, hrun3, hr3, hg3, -⟩ := run_app rowHit hr2 hb2.size (S2.out.below hb2) (flat3_one fun r hr => ONE.out r (List.mem_of_mem_drop (List.mem_of_mem_take hr))) (by simp [maxLen]; omega) (by omega)
    refine wp_append_eq hrun3 _ _ rfl rfl rfl ?_
    have hb3 := hb2.grown hg3 hb2.size (fun b hb => (hr2.lt b hb).1)
    try dsimp only
    refine hK.out _ _ ?hS (fun hH' => ?_)
    case hS =>
      trivial
    clear hK K' hH; have hH := hH'; clear hH'; (try simp only [Act.put]); (repeat (first | simp only [List.setIfInBounds_toArray] | simp only [List.set_cons_zero] | simp only [List.set_cons_succ]))
    refine tkY (v := ?_) 10 hH rfl (fun _ _ _ h => h) ?hc ?hw ?hy ?_
    case hc => decide +kernel
    case hw => rfl
    case hy => (intro w hS; (try dsimp only at hS); go_simp; try with_reducible rfl)
    (try simp only [Act.put]); (repeat (first | simp only [List.setIfInBounds_toArray] | simp only [List.set_cons_zero] | simp only [List.set_cons_succ]))
    refine wpAnyH_done (by decide +kernel) ?_ _
    have E := Lib.hid (but_end RR.out (by omega) hlen hr3 (by omega) hb3)
    clear hr0 hr2 hr3 hb0 hb1 hb2 hb3 hH hrun2 hg2 hrun3 hg3
    go_wp2_with fail
    go_ret
    exact E.out

end Go.Proofs.YtfmlhdikagogcaaDoor

namespace Go.Proofs.YtfmlhdikagogcaaDoor
open Go.RowKit
set_option maxRecDepth 20000

/-- the document's list in memory: its cell c, its slice v read from G -/
structure RefOwn (w : World) (c : Nat) (most : Int) (v : Value) (G : Nat → Prop) (r : List Hz) : Prop where
  obj : w.heap[c]? = some (.cells #[.int .i64 most, v] 116 (0, 0))
  hits : HitsF w G v r
  gc : ¬ G c
  ghi : ∀ k, G k → k < w.heap.size

theorem RefOwn.below {w w' : World} {c : Nat} {most : Int} {v : Value} {G : Nat → Prop} {r : List Hz} (h : RefOwn w c most v G r) (hb : Below w.heap.size w w') : RefOwn w' c most v G r :=
  ⟨by rw [hb.block _ (lt_block h.obj)]; exact h.obj, h.hits.below hb, h.gc, fun k hk => by have := h.ghi k hk; have := hb.size; omega⟩

theorem RefOwn.cells {w : World} {c : Nat} {most : Int} {v : Value} {G : Nat → Prop} {r : List Hz} (h : RefOwn w c most v G r) : w.cell? ⟨c, 0, none⟩ = some (.int .i64 most) ∧ w.cell? ⟨c, 1, none⟩ = some v ∧ w.frozen? ⟨c, 1, none⟩ = false :=
  ⟨by simp [World.cell?, h.obj], by simp [World.cell?, h.obj], by simp [World.frozen?, h.obj]⟩

theorem RefOwn.agree {w w' : World} {c : Nat} {most : Int} {v : Value} {G : Nat → Prop} {r : List Hz} (h : RefOwn w c most v G r) (hc : w'.heap[c]? = w.heap[c]?) (ha : Agree G w w') (hs : w.heap.size ≤ w'.heap.size) : RefOwn w' c most v G r :=
  ⟨by rw [hc]; exact h.obj, h.hits.agree ha, h.gc, fun k hk => by have := h.ghi k hk; omega⟩

set_option maxHeartbeats 4000000 in
theorem worst (c : Nat) (most : Int) (v : Value) (G : Nat → Prop) (r : List Hz) (w : World) (h : RefOwn w c most v G r) (hd : Ids r) (hne : 0 < r.length) :
    Calls Tryd.prog 65 #[.pointer (some ⟨c, 0, none⟩)] w fun e w' => (∃ i, ∃ hi : i < r.length, e = .returned (.int .i64 i) ∧ ∀ j (hj : j < r.length), j ≠ i → near r[j] r[i] = true) ∧ Below w.heap.size w w' := by
  obtain ⟨p, cap, rfl, hcap, hbig, -, -⟩ := id h.hits
  obtain ⟨c0, c1, -⟩ := h.cells
  have hl9 : r.length ≤ 9223372036854775807 := by omega
  have H := Lib.hid h
  have D := Lib.hid hd
  clear h hd hcap hbig
  go_enter Tryd.func65, Tryd.ntmps65
  go_wp2_with fail
  go_loopg [3, 11] r.length (fun q' u i wr => ∃ (k j : Nat) (hj : j < r.length), q' = r.length - k ∧ k ≤ r.length ∧ i = .int .i64 k ∧ u = .int .i64 j ∧ (∀ t (ht : t < r.length), t < k → t ≠ j → near r[t] r[j] = true) ∧ (k ≤ j → j = 0) ∧ Below w.heap.size w wr)
  case atStart => exact ⟨0, 0, hne, rfl, by omega, rfl, rfl, fun t _ h => absurd h (by omega), fun _ => rfl, Below.refl _ _⟩
  case round =>
    obtain ⟨k, j, hj, rfl, hk, rfl, rfl, hall, hkj, hb⟩ := hrel
    by_cases hlt : k < r.length
    · obtain ⟨rs', -, -, hel⟩ := (H.out.hits.below hb).rows
      obtain ⟨b, off, up, uc, -, rfl, -, -, d0, d1, d2, -, -⟩ := hel k hlt
      obtain ⟨b', off', up', uc', -, hp', -, -, e0, e1, e2, -, -⟩ := hel j hj
      obtain ⟨rfl, rfl⟩ : b = b' ∧ off = off' := by simpa using hp'
      have a1 := below_cells hb c1
      have A := Lib.hid (And.intro hall (And.intro hkj hb))
      have hsz := hb.size
      have j0 : (0 : Int) ≤ (j : Int) := by omega
      have j1 : (j : Int) < (r.length : Int) := by omega
      clear hall hkj hb hel hp'
      go_wp2_with fail
      obtain ⟨W0, hW0⟩ : ∃ W0, W0 = (wr.alloc (Obj.cells #[Value.int IntKind.u64 r[k].id, Value.int IntKind.u64 r[k].dist, Value.slice up r[k].vec.length uc] 40)).drew := ⟨_, rfl⟩
      have b0 : Below wr.heap.size wr W0 := by rw [hW0]; exact ((Below.refl _ _).alloc (Nat.le_refl _) _).drew
      have x0 : W0.cell? ⟨wr.heap.size, 0, none⟩ = some (.int .u64 r[k].id) := by rw [hW0]; go_simp
      have x1 : W0.cell? ⟨wr.heap.size, 1, none⟩ = some (.int .u64 r[k].dist) := by rw [hW0]; go_simp
      have x2 : W0.cell? ⟨wr.heap.size, 2, none⟩ = some (.slice up r[k].vec.length uc) := by rw [hW0]; go_simp
      have HW := Lib.hid hW0
      replace a1 := below_cells b0 a1
      replace e0 := below_cells b0 e0
      replace e1 := below_cells b0 e1
      replace e2 := below_cells b0 e2
      clear hW0 d0 d1 d2
      refine region_go (fun w' => w'.cell? ⟨c, 1, none⟩ = some (.slice (some ⟨b, off, none⟩) r.length cap) ∧ w'.cell? ⟨b, off + j * 3, none⟩ = some (.int .u64 r[j].id) ∧ w'.cell? ⟨b, off + j * 3 + 1, none⟩ = some (.int .u64 r[j].dist) ∧ w'.cell? ⟨b, off + j * 3 + 1 + 1, none⟩ = some (.slice up' r[j].vec.length uc') ∧ w'.cell? ⟨wr.heap.size, 0, none⟩ = some (.int .u64 r[k].id) ∧ w'.cell? ⟨wr.heap.size, 1, none⟩ = some (.int .u64 r[k].dist) ∧ w'.cell? ⟨wr.heap.size, 2, none⟩ = some (.slice up r[k].vec.length uc)) (by kernel_rfl) ?hS0 (fun hH => ?_)
      case hS0 =>
        rw [← HW.out]; exact ⟨a1, e0, e1, e2, x0, x1, x2⟩
      rw [← HW.out] at hH ⊢
      refine tkY (v := ?_) 0 hH rfl (fun _ _ _ h => h) ?hc ?hw ?hy ?_
      case hc => decide +kernel
      case hw => rfl
      case hy => (intro w hS; (try dsimp only at hS); go_simp; try with_reducible rfl)
      (try simp only [Act.put]); (repeat (first | simp only [List.setIfInBounds_toArray] | simp only [List.set_cons_zero] | simp only [List.set_cons_succ]))
      refine tkY (v := ?_) 1 hH rfl (fun _ _ _ h => h) ?hc ?hw ?hy ?_
      case hc => decide +kernel
      case hw => rfl
      case hy => (intro w hS; (try dsimp only at hS); go_simp; try with_reducible rfl)
      (try simp only [Act.put]); (repeat (first | simp only [List.setIfInBounds_toArray] | simp only [List.set_cons_zero] | simp only [List.set_cons_succ]))
      refine tkY (v := ?_) 2 hH rfl (fun _ _ _ h => h) ?hc ?hw ?hy ?_
      case hc => decide +kernel
      case hw => rfl
      case hy => (intro w hS; (try dsimp only at hS); go_simp; try with_reducible rfl)
      (try simp only [Act.put]); (repeat (first | simp only [List.setIfInBounds_toArray] | simp only [List.set_cons_zero] | simp only [List.set_cons_succ]))
      refine tkY (v := ?_) 3 hH rfl (fun _ _ _ h => h) ?hc ?hw ?hy ?_
      case hc => decide +kernel
      case hw => rfl
      case hy => (intro w hS; (try dsimp only at hS); go_simp; try with_reducible rfl)
      (try simp only [Act.put]); (repeat (first | simp only [List.setIfInBounds_toArray] | simp only [List.set_cons_zero] | simp only [List.set_cons_succ]))
      refine tkY (v := ?_) 4 hH rfl (fun _ _ _ h => h) ?hc ?hw ?hy ?_
      case hc => decide +kernel
      case hw => rfl
      case hy => (intro w hS; (try dsimp only at hS); go_simp; try with_reducible rfl)
      (try simp only [Act.put]); (repeat (first | simp only [List.setIfInBounds_toArray] | simp only [List.set_cons_zero] | simp only [List.set_cons_succ]))
      refine tkY (v := ?_) 5 hH rfl (fun _ _ _ h => h) ?hc ?hw ?hy ?_
      case hc => decide +kernel
      case hw => rfl
      case hy => (intro w hS; (try dsimp only at hS); go_simp; try with_reducible rfl)
      (try simp only [Act.put]); (repeat (first | simp only [List.setIfInBounds_toArray] | simp only [List.set_cons_zero] | simp only [List.set_cons_succ]))
      refine tkY (v := ?_) 6 hH rfl (fun _ _ _ h => h) ?hc ?hw ?hy ?_
      case hc => decide +kernel
      case hw => rfl
      case hy => (intro w hS; (try dsimp only at hS); go_simp; try with_reducible rfl)
      (try simp only [Act.put]); (repeat (first | simp only [List.setIfInBounds_toArray] | simp only [List.set_cons_zero] | simp only [List.set_cons_succ]))
      refine tkY (v := ?_) 7 hH rfl (fun _ _ _ h => h) ?hc ?hw ?hy ?_
      case hc => decide +kernel
      case hw => rfl
      case hy => (intro w hS; (try dsimp only at hS); go_simp; try with_reducible rfl)
      (try simp only [Act.put]); (repeat (first | simp only [List.setIfInBounds_toArray] | simp only [List.set_cons_zero] | simp only [List.set_cons_succ]))
      refine spk 8 rfl ?hr ?hw (fun K' hK => ?_)
      case hr => decide +kernel
      case hw => rfl
      go_simp
      refine (refNearer r[j].id r[j].dist r[k].id r[k].dist _ _ _).mono ?_
      rintro e w4 ⟨rfl, hb4⟩
      try dsimp only
      refine hK.out _ _ ?hS (fun hH' => ?_)
      case hS =>
        exact ⟨below_cells hb4 a1, below_cells hb4 e0, below_cells hb4 e1, below_cells hb4 e2, below_cells hb4 x0, below_cells hb4 x1, below_cells hb4 x2⟩
      clear hK K' hH; have hH := hH'; clear hH'; (try simp only [Act.put]); (repeat (first | simp only [List.setIfInBounds_toArray] | simp only [List.set_cons_zero] | simp only [List.set_cons_succ]))
      refine wpAnyH_done (by decide +kernel) ?_ _
      have B4 := Lib.hid (A.out.2.2.trans ((b0.trans (hb4.mono b0.size)).mono hsz))
      have hkw := lt_of_cell hH.2.2.2.2.1
      have ht2 : r.length - (k + 1) < r.length - k := by omega
      clear hH hb4 a1 e0 e1 e2 x0 x1 x2 b0 hkw
      cases hq : nearB r[j].id r[j].dist r[k].id r[k].dist
      · go_wp2_with fail
        go_roundg (r.length - (k + 1))
        case measure => omega
        case rel =>
          refine ⟨k + 1, j, hj, rfl, by omega, by go_num, rfl, fun t ht htk hne => ?_, fun h => A.out.2.1 (by omega), B4.out⟩
          by_cases e : t = k
          · subst e
            have hid : r[t].id ≠ r[j].id := by
              rcases Nat.lt_or_ge t j with h | h
              · exact List.pairwise_iff_getElem.1 D.out t j ht hj h
              · exact (List.pairwise_iff_getElem.1 D.out j t hj ht (by omega)).symm
            rcases near_total hid with h | h
            · exact h
            · rw [show near r[j] r[t] = false from hq] at h; cases h
          · exact A.out.1 t ht (by omega) hne
      · go_wp2_with fail
        go_roundg (r.length - (k + 1))
        case measure => omega
        case rel =>
          refine ⟨k + 1, k, hlt, rfl, by omega, by go_num, rfl, fun t ht htk hne => ?_, fun h => by omega, B4.out⟩
          by_cases e : t = j
          · subst e; exact hq
          · exact near_trans (A.out.1 t ht (by omega) e) hq
    · obtain rfl : r.length = k := by omega
      have BF := Lib.hid (And.intro hall hb)
      clear hall hb
      go_wp2_with fail
      go_ret
      exact ⟨⟨j, hj, rfl, fun t ht hne => BF.out.1 t ht ht hne⟩, BF.out.2⟩

end Go.Proofs.YtfmlhdikagogcaaDoor
