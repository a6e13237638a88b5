/-
  best's law: BestOrders.
-/
import Derived.Test.YtfjhipaoljnfaaaBestR
namespace Go.Proofs.Ytfjhipaoljnfaaa
open Go.RowKit

theorem one_list {w : World} {E : Nat → Prop} {q : Option Addr} {qc : Nat} {l : List Hz} (h : HitsF w E (.slice q l.length qc) l) :
    ListsF (w.alloc (.cells #[.slice q l.length qc] 22)) (fun k => k = w.heap.size ∨ E k) (.slice (some ⟨w.heap.size, 0, none⟩) 1 1) [l] := by
  refine ⟨_, 1, rfl, by simp, by decide, by simp, fun i hi => ⟨w.heap.size, 0, .slice q l.length qc, rfl, .inl rfl, ?_⟩⟩
  obtain rfl : i = 0 := by simp at hi; omega
  exact ⟨by go_simp <;> rfl, (h.below ((Below.refl _ _).alloc (Nat.le_refl _) _)).mono fun _ => .inr⟩

set_option maxHeartbeats 8000000 in
theorem bestOrders (a : Int) (ha : 0 ≤ a ∧ a ≤ 255) (l0 : List Hz) (v : Value) (w : World) (h : HitsF w (fun _ => True) v l0) :
    Calls Try.prog 6 #[.int .u8 a, v] w fun e w' => e = .returned (.bool true) ∧ Below w.heap.size w w' := by
  have H := Lib.hid h
  obtain ⟨a1, a2⟩ := ha
  clear h
  go_enter Try.func6, Try.ntmps6
  go_wp2_with fail
  refine (awake_true w).mono ?_
  rintro e w1 ⟨rfl, hb1⟩
  have B1 := Lib.hid hb1
  have RH := Lib.hid (show Calls Try.prog 12 #[v, .int .i64 60] w1 (NewHits w1 35 (hitsZ 60 l0)) from refHits 60 (by omega) l0 _ v w1 (H.out.below hb1))
  clear hb1
  go_wp2_with fail
  obtain ⟨n, hn, hn1, hn2⟩ : ∃ n : Nat, 1 + a % 30 = n ∧ 1 ≤ n ∧ n ≤ 30 := ⟨(1 + a % 30).toNat, by omega, by omega, by omega⟩
  simp only [hn]
  clear hn
  refine RH.out.mono ?_
  rintro e wl ⟨vl, rs, rfl, ho, hh, hbl⟩
  have hl60 : (hitsZ 60 l0).length ≤ 60 := by rw [hitsZ_length]; omega
  have hx8 : ∀ h ∈ hitsZ 60 l0, h.vec.length ≤ 1000000 := fun h (hh : h ∈ hitsZ 60 l0) => Nat.le_trans (hitsZ_vec hh) (by omega)
  have hq := HitsF.of_own (F := fun k => w1.heap.size ≤ k ∧ k < wl.heap.size) ho (fun b hb => ho.lt b hb) hh.rows
  obtain ⟨q, qc, rfl, -, -, -, -⟩ := id hq
  have hone := one_list hq
  have BL := Lib.hid (B1.out.trans (hbl.mono B1.out.size))
  have MG := Lib.hid (merge n hn1 (by omega) [hitsZ 60 l0] _ _ _ hone (fun k hk => by
    simp
    rcases hk with rfl | hk
    · omega
    · omega) (fun ms hm => by rw [List.mem_singleton.1 hm]; exact ⟨by omega, hx8⟩))
  have GL := Lib.hid (mergeZ_good hn1 [hitsZ 60 l0] (fun ms hm => by rw [List.mem_singleton.1 hm]; exact hx8))
  have B2 := Lib.hid (BL.out.alloc (o := .cells #[.slice q (hitsZ 60 l0).length qc] 22) BL.out.size)
  clear ho hh hbl RH hx8 hq hone
  generalize mergeZ n [hitsZ 60 l0] = m at *
  go_wp2_with fail
  refine MG.out.mono ?_
  rintro e W ⟨v2, rfl, hm2, hb2⟩
  obtain ⟨p, cap, rfl, -, -, -, -⟩ := id hm2
  have M := Lib.hid hm2
  have BW := Lib.hid (B2.out.trans (hb2.mono B2.out.size))
  have hm30 : m.length ≤ n := GL.out.len
  clear hm2 hb2
  go_wp2_with fail
  go_loopg [22] m.length (fun q' i wr => ∃ k : Nat, q' = m.length - k ∧ k ≤ m.length ∧ i = .int .i64 k ∧ Below W.heap.size W wr)
  case atStart => exact ⟨0, rfl, by omega, rfl, Below.refl _ _⟩
  case round =>
    obtain ⟨i, rfl, hi, rfl, hbo⟩ := hrel
    by_cases hlt : i < m.length
    · have BO := Lib.hid hbo
      clear hbo
      obtain ⟨wo, rfl⟩ : ∃ wo : World, wo = wr := ⟨_, rfl⟩
      go_wp2_with fail
      go_loopg [26] i (fun q' k wr => ∃ j : Nat, q' = i - j ∧ j ≤ i ∧ k = .int .i64 j ∧ Below W.heap.size W wr)
      case atStart => exact ⟨0, rfl, by omega, rfl, BO.out⟩
      case round =>
        obtain ⟨k, rfl, hk, rfl, hbi⟩ := hrel
        by_cases hlt2 : k < i
        · have hkm : k < m.length := by omega
          obtain ⟨rs', -, -, hel⟩ := (M.out.below hbi).rows
          obtain ⟨b, off, up, uc, -, rfl, -, -, c0, c1, c2, -, -⟩ := hel k hkm
          obtain ⟨b', off', up', uc', -, hp, -, -, d0, d1, d2, -, -⟩ := hel i hlt
          obtain ⟨rfl, rfl⟩ : b = b' ∧ off = off' := by simpa using hp
          have hne : (m[k].id == m[i].id) = false := by rw [beq_eq_false_iff_ne]; exact List.pairwise_iff_getElem.1 GL.out.ids k i hkm hlt hlt2
          have NB := Lib.hid (show nearB m[k].id m[k].dist m[i].id m[i].dist = true from List.pairwise_iff_getElem.1 GL.out.sorted k i hkm hlt hlt2)
          have BI := Lib.hid hbi
          have k0 : (0 : Int) ≤ (k : Int) := by omega
          have k1 : (k : Int) < (m.length : Int) := by omega
          have i0 : (0 : Int) ≤ (i : Int) := by omega
          have i1 : (i : Int) < (m.length : Int) := by omega
          clear hbi hel hp
          go_wp2_with fail
          obtain ⟨W0, hW0⟩ : ∃ W0, W0 = wr.drew := ⟨_, rfl⟩
          have b0 : Below wr.heap.size wr W0 := by rw [hW0]; exact (Below.refl _ _).drew
          replace c0 := below_cells b0 c0
          replace c1 := below_cells b0 c1
          replace c2 := below_cells b0 c2
          replace d0 := below_cells b0 d0
          replace d1 := below_cells b0 d1
          replace d2 := below_cells b0 d2
          have B0 := Lib.hid (BI.out.trans (b0.mono BI.out.size))
          have HW := Lib.hid hW0
          clear hW0 b0
          refine region_go (fun w' => w'.cell? ⟨b, off + k * 3, none⟩ = some (.int .u64 m[k].id) ∧ w'.cell? ⟨b, off + k * 3 + 1, none⟩ = some (.int .u64 m[k].dist) ∧ w'.cell? ⟨b, off + k * 3 + 1 + 1, none⟩ = some (.slice up m[k].vec.length uc) ∧ w'.cell? ⟨b, off + i * 3, none⟩ = some (.int .u64 m[i].id) ∧ w'.cell? ⟨b, off + i * 3 + 1, none⟩ = some (.int .u64 m[i].dist) ∧ w'.cell? ⟨b, off + i * 3 + 1 + 1, none⟩ = some (.slice up' m[i].vec.length uc')) (by kernel_rfl) ?hS0 (fun hH => ?_)
          case hS0 =>
            rw [← HW.out]; exact ⟨c0, c1, c2, d0, d1, d2⟩
          rw [← HW.out] at hH ⊢
          refine tkY (v := ?_) 0 hH rfl (fun _ _ _ h => h) ?hc ?hw ?hy ?_
          case hc => decide +kernel
          case hw => rfl
          case hy => (intro w hS; (try dsimp only at hS); go_simp; try with_reducible rfl)
          (try simp only [Act.put]); (repeat (first | simp only [List.setIfInBounds_toArray] | simp only [List.set_cons_zero] | simp only [List.set_cons_succ]))
          refine tkY (v := ?_) 1 hH rfl (fun _ _ _ h => h) ?hc ?hw ?hy ?_
          case hc => decide +kernel
          case hw => rfl
          case hy => (intro w hS; (try dsimp only at hS); go_simp; try with_reducible rfl)
          (try simp only [Act.put]); (repeat (first | simp only [List.setIfInBounds_toArray] | simp only [List.set_cons_zero] | simp only [List.set_cons_succ]))
          refine tkY (v := ?_) 2 hH rfl (fun _ _ _ h => h) ?hc ?hw ?hy ?_
          case hc => decide +kernel
          case hw => rfl
          case hy => (intro w hS; (try dsimp only at hS); go_simp; try with_reducible rfl)
          (try simp only [Act.put]); (repeat (first | simp only [List.setIfInBounds_toArray] | simp only [List.set_cons_zero] | simp only [List.set_cons_succ]))
          refine tkY (v := ?_) 3 hH rfl (fun _ _ _ h => h) ?hc ?hw ?hy ?_
          case hc => decide +kernel
          case hw => rfl
          case hy => (intro w hS; (try dsimp only at hS); go_simp; try with_reducible rfl)
          (try simp only [Act.put]); (repeat (first | simp only [List.setIfInBounds_toArray] | simp only [List.set_cons_zero] | simp only [List.set_cons_succ]))
          refine tkY (v := ?_) 4 hH rfl (fun _ _ _ h => h) ?hc ?hw ?hy ?_
          case hc => decide +kernel
          case hw => rfl
          case hy => (intro w hS; (try dsimp only at hS); go_simp; try with_reducible rfl)
          (try simp only [Act.put]); (repeat (first | simp only [List.setIfInBounds_toArray] | simp only [List.set_cons_zero] | simp only [List.set_cons_succ]))
          refine tkY (v := ?_) 5 hH rfl (fun _ _ _ h => h) ?hc ?hw ?hy ?_
          case hc => decide +kernel
          case hw => rfl
          case hy => (intro w hS; (try dsimp only at hS); go_simp; try with_reducible rfl)
          (try simp only [Act.put]); (repeat (first | simp only [List.setIfInBounds_toArray] | simp only [List.set_cons_zero] | simp only [List.set_cons_succ]))
          refine tkY (v := ?_) 6 hH rfl (fun _ _ _ h => h) ?hc ?hw ?hy ?_
          case hc => decide +kernel
          case hw => rfl
          case hy => (intro w hS; (try dsimp only at hS); go_simp; try with_reducible rfl)
          (try simp only [Act.put]); (repeat (first | simp only [List.setIfInBounds_toArray] | simp only [List.set_cons_zero] | simp only [List.set_cons_succ]))
          refine tkY (v := ?_) 7 hH rfl (fun _ _ _ h => h) ?hc ?hw ?hy ?_
          case hc => decide +kernel
          case hw => rfl
          case hy => (intro w hS; (try dsimp only at hS); go_simp; try with_reducible rfl)
          (try simp only [Act.put]); (repeat (first | simp only [List.setIfInBounds_toArray] | simp only [List.set_cons_zero] | simp only [List.set_cons_succ]))
          refine tkY (v := ?_) 8 hH rfl (fun _ _ _ h => h) ?hc ?hw ?hy ?_
          case hc => decide +kernel
          case hw => rfl
          case hy => (intro w hS; (try dsimp only at hS); go_simp; try with_reducible rfl)
          (try simp only [Act.put]); (repeat (first | simp only [List.setIfInBounds_toArray] | simp only [List.set_cons_zero] | simp only [List.set_cons_succ]))
          refine tkY (v := ?_) 9 hH rfl (fun _ _ _ h => h) ?hc ?hw ?hy ?_
          case hc => decide +kernel
          case hw => rfl
          case hy => (intro w hS; (try dsimp only at hS); go_simp; try with_reducible rfl)
          (try simp only [Act.put]); (repeat (first | simp only [List.setIfInBounds_toArray] | simp only [List.set_cons_zero] | simp only [List.set_cons_succ]))
          refine tkY (v := ?_) 10 hH rfl (fun _ _ _ h => h) ?hc ?hw ?hy ?_
          case hc => decide +kernel
          case hw => rfl
          case hy => (intro w hS; (try dsimp only at hS); go_simp; try with_reducible rfl)
          (try simp only [Act.put]); (repeat (first | simp only [List.setIfInBounds_toArray] | simp only [List.set_cons_zero] | simp only [List.set_cons_succ]))
          refine tkY (v := ?_) 11 hH rfl (fun _ _ _ h => h) ?hc ?hw ?hy ?_
          case hc => decide +kernel
          case hw => rfl
          case hy => (intro w hS; (try dsimp only at hS); go_simp; try with_reducible rfl)
          (try simp only [Act.put]); (repeat (first | simp only [List.setIfInBounds_toArray] | simp only [List.set_cons_zero] | simp only [List.set_cons_succ]))
          refine tkY (v := ?_) 12 hH rfl (fun _ _ _ h => h) ?hc ?hw ?hy ?_
          case hc => decide +kernel
          case hw => rfl
          case hy => (intro w hS; (try dsimp only at hS); go_simp; try with_reducible rfl)
          (try simp only [Act.put]); (repeat (first | simp only [List.setIfInBounds_toArray] | simp only [List.set_cons_zero] | simp only [List.set_cons_succ]))
          refine tkY (v := ?_) 13 hH rfl (fun _ _ _ h => h) ?hc ?hw ?hy ?_
          case hc => decide +kernel
          case hw => rfl
          case hy => (intro w hS; (try dsimp only at hS); go_simp; try with_reducible rfl)
          (try simp only [Act.put]); (repeat (first | simp only [List.setIfInBounds_toArray] | simp only [List.set_cons_zero] | simp only [List.set_cons_succ]))
          refine tkY (v := ?_) 14 hH rfl (fun _ _ _ h => h) ?hc ?hw ?hy ?_
          case hc => decide +kernel
          case hw => rfl
          case hy => (intro w hS; (try dsimp only at hS); go_simp; try with_reducible rfl)
          (try simp only [Act.put]); (repeat (first | simp only [List.setIfInBounds_toArray] | simp only [List.set_cons_zero] | simp only [List.set_cons_succ]))
          refine tkY (v := ?_) 15 hH rfl (fun _ _ _ h => h) ?hc ?hw ?hy ?_
          case hc => decide +kernel
          case hw => rfl
          case hy => (intro w hS; (try dsimp only at hS); go_simp; try with_reducible rfl)
          (try simp only [Act.put]); (repeat (first | simp only [List.setIfInBounds_toArray] | simp only [List.set_cons_zero] | simp only [List.set_cons_succ]))
          refine tkY (v := ?_) 16 hH rfl (fun _ _ _ h => h) ?hc ?hw ?hy ?_
          case hc => decide +kernel
          case hw => rfl
          case hy => (intro w hS; (try dsimp only at hS); go_simp; try with_reducible rfl)
          (try simp only [Act.put]); (repeat (first | simp only [List.setIfInBounds_toArray] | simp only [List.set_cons_zero] | simp only [List.set_cons_succ]))
          refine tkY (v := ?_) 17 hH rfl (fun _ _ _ h => h) ?hc ?hw ?hy ?_
          case hc => decide +kernel
          case hw => rfl
          case hy => (intro w hS; (try dsimp only at hS); go_simp; try with_reducible rfl)
          (try simp only [Act.put]); (repeat (first | simp only [List.setIfInBounds_toArray] | simp only [List.set_cons_zero] | simp only [List.set_cons_succ]))
          refine tkY (v := ?_) 18 hH rfl (fun _ _ _ h => h) ?hc ?hw ?hy ?_
          case hc => decide +kernel
          case hw => rfl
          case hy => (intro w hS; (try dsimp only at hS); go_simp; try with_reducible rfl)
          (try simp only [Act.put]); (repeat (first | simp only [List.setIfInBounds_toArray] | simp only [List.set_cons_zero] | simp only [List.set_cons_succ]))
          refine tkY (v := ?_) 19 hH rfl (fun _ _ _ h => h) ?hc ?hw ?hy ?_
          case hc => decide +kernel
          case hw => rfl
          case hy => (intro w hS; (try dsimp only at hS); go_simp; try with_reducible rfl)
          (try simp only [Act.put]); (repeat (first | simp only [List.setIfInBounds_toArray] | simp only [List.set_cons_zero] | simp only [List.set_cons_succ]))
          refine spk 20 rfl ?hr ?hw (fun K' hK => ?_)
          case hr => decide +kernel
          case hw => rfl
          go_simp
          refine (refNearer m[k].id m[k].dist m[i].id m[i].dist _ _ _).mono ?_
          rintro e w4 ⟨rfl, hb4⟩
          try dsimp only
          refine hK.out _ _ ?hS (fun hH' => ?_)
          case hS =>
            exact ⟨below_cells hb4 c0, below_cells hb4 c1, below_cells hb4 c2, below_cells hb4 d0, below_cells hb4 d1, below_cells hb4 d2⟩
          clear hK K' hH; have hH := hH'; clear hH'; (try simp only [Act.put]); (repeat (first | simp only [List.setIfInBounds_toArray] | simp only [List.set_cons_zero] | simp only [List.set_cons_succ]))
          refine tkY (v := ?_) 21 hH rfl (fun _ _ _ h => h) ?hc ?hw ?hy ?_
          case hc => decide +kernel
          case hw => rfl
          case hy => (intro w hS; (try dsimp only at hS); go_simp; try with_reducible rfl)
          (try simp only [Act.put]); (repeat (first | simp only [List.setIfInBounds_toArray] | simp only [List.set_cons_zero] | simp only [List.set_cons_succ]))
          refine tkY (v := ?_) 22 hH rfl (fun _ _ _ h => h) ?hc ?hw ?hy ?_
          case hc => decide +kernel
          case hw => rfl
          case hy => (intro w hS; (try dsimp only at hS); go_simp; try with_reducible rfl)
          (try simp only [Act.put]); (repeat (first | simp only [List.setIfInBounds_toArray] | simp only [List.set_cons_zero] | simp only [List.set_cons_succ]))
          refine wpAnyH_done (by decide +kernel) ?_ _
          have B4 := Lib.hid (B0.out.trans (hb4.mono B0.out.size))
          clear hH hb4 c0 c1 c2 d0 d1 d2
          rw [NB.out]
          go_wp2_with fail
          go_roundg (i - (k + 1))
          case measure => omega
          case rel => exact ⟨k + 1, rfl, by omega, by go_num, B4.out⟩
        · obtain rfl : k = i := by omega
          have BI := Lib.hid hbi
          clear hbi
          go_wp2_with fail
          go_roundg (m.length - (k + 1))
          case measure => omega
          case rel => exact ⟨k + 1, rfl, by omega, by go_num, BI.out⟩
    · obtain rfl : i = m.length := by omega
      have BF := Lib.hid (BW.out.trans (hbo.mono BW.out.size))
      have hfin : decide ((m.length : Int) ≤ (n : Int)) = true := decide_eq_true (by omega)
      clear hbo
      go_wp2_with fail
      go_ret
      exact ⟨ret_bool (by simp), BF.out⟩

end Go.Proofs.Ytfjhipaoljnfaaa
