/-
  best: slices.Delete and slices.Insert at hits.
-/
import Derived.Test.YtfmlhdikagogcaaDoorJ19
namespace Go.Proofs.YtfmlhdikagogcaaDoor
open Go.RowKit
set_option maxRecDepth 20000

/-- what Delete leaves -/
def Deleted (B g cap n : Nat) (rs : List Hv) (w : World) (e : Ending) (w' : World) : Prop :=
  e = .returned (.slice (some ⟨g, 0, none⟩) n cap) ∧ w'.ownsRow B 40 3 (.slice (some ⟨g, 0, none⟩) n cap) n (flat3 rs) ∧ Mod (fun k => k = g) w w'

theorem erase_parts (rs : List Hv) (i : Nat) (hi : i < rs.length) : flat3 (rs.take i) ++ flat3 (rs.drop (i + 1)) = flat3 (rs.eraseIdx i) := by
  rw [← flat3_append, List.eraseIdx_eq_take_drop_succ]

set_option maxHeartbeats 1000000 in
theorem delete (B g cap n1 : Nat) (rs : List Hv) (i : Nat) (hi : i ≤ n1) (hrn : rs.length = n1 + 1) (hone : ∀ r ∈ rs, r.vec.oneCell' = true) (w : World) (h : w.ownsRow B 40 3 (.slice (some ⟨g, 0, none⟩) (n1 + 1) cap) (n1 + 1) (flat3 rs)) (hn : n1 ≤ 1000000) :
    Calls Tryd.prog 79 #[.slice (some ⟨g, 0, none⟩) (n1 + 1) cap, .int .i64 i, .int .i64 (i + 1)] w (Deleted B g cap n1 (rs.eraseIdx i) w) := by
  obtain ⟨hc1, hc2, cur, hcur, hcs⟩ := own_cap h
  simp only [maxLen] at hc2
  obtain ⟨i0, hi0, hz0, hz1, hz2⟩ := info_parts rowHit.info
  -- the append, wherever the rest is said to begin
  have AP : ∀ (a : Addr) (c : Nat), (i + 1 < cap → a = ⟨g, (i + 1) * 3, none⟩) → ∃ w', (∀ ty, (Builtin.append_ #[35, 35] ty #[.slice (some ⟨g, 0, none⟩) i cap, .slice (some a) (n1 - i) c]).run Tryd.prog w.drew = .ok (.slice (some ⟨g, 0, none⟩) n1 cap) w') ∧
      w'.ownsRow B 40 3 (.slice (some ⟨g, 0, none⟩) n1 cap) n1 (flat3 (rs.eraseIdx i)) ∧ w.drew.grownBy w' (some g) := by
    intro a c ha
    have hd := own_below h (Below.refl _ w).drew
    have hp := own_prefix hd (k := i) (by omega)
    rw [flat3_take] at hp
    obtain ⟨w', hr, h2, h3⟩ := run_append_own_spare (P := Tryd.prog) w.drew B 35 0 40 i0 3 Tryd.underlying35 hi0 hz1 g i cap (flat3 (rs.take i)) hp a (n1 - i) c (flat3 (rs.drop (i + 1))) (by rw [flat3_length, List.length_drop]; omega)
      (fun j u hj => by
        have hlt : i + 1 < cap := by
          refine Nat.lt_of_not_le fun hle => ?_
          have : rs.drop (i + 1) = [] := List.drop_eq_nil_of_le (by omega)
          rw [this] at hj; simp [flat3] at hj
        obtain rfl := ha hlt
        rw [← flat3_drop, List.getElem?_drop] at hj
        rw [Addr.add_lit]
        have := own_rangeAt hd rfl 0 (flat3 rs) (fun j u h => by simpa using h)
        have := this _ _ hj
        simpa using this) (flat3_one fun r hr => hone r (List.mem_of_mem_drop hr)) (by omega)
    rw [erase_parts rs i (by omega)] at h2
    rw [show i + (n1 - i) = n1 by omega] at hr h2
    exact ⟨w', fun ty => hr, h2, h3⟩
  have hbase : ∀ (w' : World), w.drew.grownBy w' (some g) → Mod (fun k => k = g) w w' := fun w' hg => (Mod.of_below (Below.refl _ w).drew).grown hg (fun k hk => .inl (by cases hk; rfl))
  have HB := Lib.hid hbase
  have hg : g < w.heap.size := lt_block hcur
  clear h hone hcur hcs hbase hi0 hz0 hz1 hz2 hrn
  by_cases hic : i + 1 = cap
  · obtain rfl : i + 1 = cap := hic
    obtain rfl : i = n1 := by omega
    rw [Nat.sub_self] at AP
    obtain ⟨w1, hrun, ho1, hg1⟩ := AP ⟨g, 0, none⟩ 0 (fun hh => by first | rfl | omega)
    have RUN := Lib.hid hrun
    have hcl := run_clear1 (o := i * 3) ho1 (by omega) (1) 0
    have FIN := Lib.hid (And.intro (own_setCells_far [.int .u64 0, .int .u64 0, .slice none 0 0] (i * 3) w1 _ ho1 (Nat.le_refl _)) (mod_setCells (HB.out w1 hg1) (.inl rfl) [.int .u64 0, .int .u64 0, .slice none 0 0] (i * 3)))
    clear AP hrun ho1 hg1
    have hx1 : (i : Int) ≤ (((i + 1) : Nat) : Int) := by omega
    have hx2 : (i : Int) + 1 ≤ (i : Int) + 1 := by omega
    have hx3 : (i : Int) ≤ (i : Int) + 1 := by omega
    have hx4 : (0 : Int) ≤ (i : Int) + 1 := by omega
    have hx5 : ((i : Int) == (i : Int) + 1) = false := by rw [beq_eq_false_iff_ne]; omega
    go_enter Tryd.func79, Tryd.ntmps79
    go_wp2_with fail
    refine region_go (fun _ => True) (by kernel_rfl) ?hS0 (fun hH => ?_)
    case hS0 =>
      trivial
    refine tkY (v := ?_) 0 hH rfl (fun _ _ _ h => h) ?hc ?hw ?hy ?_
    case hc => decide +kernel
    case hw => rfl
    case hy => (intro w hS; (try dsimp only at hS); go_simp; try with_reducible rfl)
    (try simp only [Act.put]); (repeat (first | simp only [List.setIfInBounds_toArray] | simp only [List.set_cons_zero] | simp only [List.set_cons_succ]))
    refine tkY (v := ?_) 1 hH rfl (fun _ _ _ h => h) ?hc ?hw ?hy ?_
    case hc => decide +kernel
    case hw => rfl
    case hy => (intro w hS; (try dsimp only at hS); go_simp; try with_reducible rfl)
    (try simp only [Act.put]); (repeat (first | simp only [List.setIfInBounds_toArray] | simp only [List.set_cons_zero] | simp only [List.set_cons_succ]))
    refine tkY (v := ?_) 2 hH rfl (fun _ _ _ h => h) ?hc ?hw ?hy ?_
    case hc => decide +kernel
    case hw => rfl
    case hy => (intro w hS; (try dsimp only at hS); go_simp; try with_reducible rfl)
    (try simp only [Act.put]); (repeat (first | simp only [List.setIfInBounds_toArray] | simp only [List.set_cons_zero] | simp only [List.set_cons_succ]))
    refine tkY (v := ?_) 3 hH rfl (fun _ _ _ h => h) ?hc ?hw ?hy ?_
    case hc => decide +kernel
    case hw => rfl
    case hy => (intro w hS; (try dsimp only at hS); go_simp; try with_reducible rfl)
    (try simp only [Act.put]); (repeat (first | simp only [List.setIfInBounds_toArray] | simp only [List.set_cons_zero] | simp only [List.set_cons_succ]))
    refine tkY (v := ?_) 4 hH rfl (fun _ _ _ h => h) ?hc ?hw ?hy ?_
    case hc => decide +kernel
    case hw => rfl
    case hy => (intro w hS; (try dsimp only at hS); go_simp; try with_reducible rfl)
    (try simp only [Act.put]); (repeat (first | simp only [List.setIfInBounds_toArray] | simp only [List.set_cons_zero] | simp only [List.set_cons_succ]))
    refine tkY (v := ?_) 5 hH rfl (fun _ _ _ h => h) ?hc ?hw ?hy ?_
    case hc => decide +kernel
    case hw => rfl
    case hy => (intro w hS; (try dsimp only at hS); go_simp; try with_reducible rfl)
    (try simp only [Act.put]); (repeat (first | simp only [List.setIfInBounds_toArray] | simp only [List.set_cons_zero] | simp only [List.set_cons_succ]))
    refine spk 6 rfl ?hr ?hw (fun K' hK => ?_)
    case hr => decide +kernel
    case hw => rfl
    refine wp_append_eq RUN.out _ _ rfl rfl rfl ?_
    try dsimp only
    refine hK.out _ _ ?hS (fun hH' => ?_)
    case hS =>
      trivial
    clear hK K' hH; have hH := hH'; clear hH'; (try simp only [Act.put]); (repeat (first | simp only [List.setIfInBounds_toArray] | simp only [List.set_cons_zero] | simp only [List.set_cons_succ]))
    refine tkY (v := ?_) 7 hH rfl (fun _ _ _ h => h) ?hc ?hw ?hy ?_
    case hc => decide +kernel
    case hw => rfl
    case hy => (intro w hS; (try dsimp only at hS); go_simp; try with_reducible rfl)
    (try simp only [Act.put]); (repeat (first | simp only [List.setIfInBounds_toArray] | simp only [List.set_cons_zero] | simp only [List.set_cons_succ]))
    refine wpAnyH_done (by decide +kernel) ?_ _
    clear hH
    go_wp2_with fail
    go_ret
    exact ⟨rfl, FIN.out.1, FIN.out.2⟩
  · have hic' : ¬ cap = i + 1 := fun e => hic e.symm
    obtain ⟨w1, hrun, ho1, hg1⟩ := AP ⟨g, (i + 1) * 3, none⟩ (cap - (i + 1)) (fun hh => by first | rfl | omega)
    have RUN := Lib.hid hrun
    have hcl := run_clear1 (o := n1 * 3) ho1 (by omega) (cap - n1) 0
    have FIN := Lib.hid (And.intro (own_setCells_far [.int .u64 0, .int .u64 0, .slice none 0 0] (n1 * 3) w1 _ ho1 (Nat.le_refl _)) (mod_setCells (HB.out w1 hg1) (.inl rfl) [.int .u64 0, .int .u64 0, .slice none 0 0] (n1 * 3)))
    clear AP hrun ho1 hg1
    have hx1 : (i : Int) ≤ ((cap : Nat) : Int) := by omega
    have hx2 : (i : Int) + 1 ≤ (n1 : Int) + 1 := by omega
    have hx3 : (i : Int) ≤ (i : Int) + 1 := by omega
    have hx4 : (0 : Int) ≤ (i : Int) + 1 := by omega
    have hx5 : ((i : Int) == (i : Int) + 1) = false := by rw [beq_eq_false_iff_ne]; omega
    go_enter Tryd.func79, Tryd.ntmps79
    go_wp2_with fail
    refine region_go (fun _ => True) (by kernel_rfl) ?hS0 (fun hH => ?_)
    case hS0 =>
      trivial
    refine tkY (v := ?_) 0 hH rfl (fun _ _ _ h => h) ?hc ?hw ?hy ?_
    case hc => decide +kernel
    case hw => rfl
    case hy => (intro w hS; (try dsimp only at hS); go_simp; try with_reducible rfl)
    (try simp only [Act.put]); (repeat (first | simp only [List.setIfInBounds_toArray] | simp only [List.set_cons_zero] | simp only [List.set_cons_succ]))
    refine tkY (v := ?_) 1 hH rfl (fun _ _ _ h => h) ?hc ?hw ?hy ?_
    case hc => decide +kernel
    case hw => rfl
    case hy => (intro w hS; (try dsimp only at hS); go_simp; try with_reducible rfl)
    (try simp only [Act.put]); (repeat (first | simp only [List.setIfInBounds_toArray] | simp only [List.set_cons_zero] | simp only [List.set_cons_succ]))
    refine tkY (v := ?_) 2 hH rfl (fun _ _ _ h => h) ?hc ?hw ?hy ?_
    case hc => decide +kernel
    case hw => rfl
    case hy => (intro w hS; (try dsimp only at hS); go_simp; try with_reducible rfl)
    (try simp only [Act.put]); (repeat (first | simp only [List.setIfInBounds_toArray] | simp only [List.set_cons_zero] | simp only [List.set_cons_succ]))
    refine tkY (v := ?_) 3 hH rfl (fun _ _ _ h => h) ?hc ?hw ?hy ?_
    case hc => decide +kernel
    case hw => rfl
    case hy => (intro w hS; (try dsimp only at hS); go_simp; try with_reducible rfl)
    (try simp only [Act.put]); (repeat (first | simp only [List.setIfInBounds_toArray] | simp only [List.set_cons_zero] | simp only [List.set_cons_succ]))
    refine tkY (v := ?_) 4 hH rfl (fun _ _ _ h => h) ?hc ?hw ?hy ?_
    case hc => decide +kernel
    case hw => rfl
    case hy => (intro w hS; (try dsimp only at hS); go_simp; try with_reducible rfl)
    (try simp only [Act.put]); (repeat (first | simp only [List.setIfInBounds_toArray] | simp only [List.set_cons_zero] | simp only [List.set_cons_succ]))
    refine tkY (v := ?_) 5 hH rfl (fun _ _ _ h => h) ?hc ?hw ?hy ?_
    case hc => decide +kernel
    case hw => rfl
    case hy => (intro w hS; (try dsimp only at hS); go_simp; try with_reducible rfl)
    (try simp only [Act.put]); (repeat (first | simp only [List.setIfInBounds_toArray] | simp only [List.set_cons_zero] | simp only [List.set_cons_succ]))
    refine spk 6 rfl ?hr ?hw (fun K' hK => ?_)
    case hr => decide +kernel
    case hw => rfl
    refine wp_append_eq RUN.out _ _ rfl rfl rfl ?_
    try dsimp only
    refine hK.out _ _ ?hS (fun hH' => ?_)
    case hS =>
      trivial
    clear hK K' hH; have hH := hH'; clear hH'; (try simp only [Act.put]); (repeat (first | simp only [List.setIfInBounds_toArray] | simp only [List.set_cons_zero] | simp only [List.set_cons_succ]))
    refine tkY (v := ?_) 7 hH rfl (fun _ _ _ h => h) ?hc ?hw ?hy ?_
    case hc => decide +kernel
    case hw => rfl
    case hy => (intro w hS; (try dsimp only at hS); go_simp; try with_reducible rfl)
    (try simp only [Act.put]); (repeat (first | simp only [List.setIfInBounds_toArray] | simp only [List.set_cons_zero] | simp only [List.set_cons_succ]))
    refine wpAnyH_done (by decide +kernel) ?_ _
    clear hH
    go_wp2_with fail
    go_ret
    exact ⟨rfl, FIN.out.1, FIN.out.2⟩

end Go.Proofs.YtfmlhdikagogcaaDoor
