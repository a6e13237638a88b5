import Derived.Test.YtidaecdlpjfngaaVecG
import Derived.Test.YtidaecdlpjfngaaRegion
namespace Go.Proofs.Ytidaecdlpjfngaa
open Go.RowKit

theorem nearB_asymm {i d j e : Int} (h : nearB i d j e = true) : nearB j e i d = false := by
  simp only [nearB, Bool.or_eq_true, Bool.and_eq_true, decide_eq_true_eq] at h
  rw [Bool.eq_false_iff]
  intro g
  simp only [nearB, Bool.or_eq_true, Bool.and_eq_true, decide_eq_true_eq] at g
  omega

theorem nearB_trans {i d j e k f : Int} (h : nearB i d j e = true) (g : nearB j e k f = true) : nearB i d k f = true := by
  simp only [nearB, Bool.or_eq_true, Bool.and_eq_true, decide_eq_true_eq] at *
  omega

theorem below_cells {w w' : World} (hb : Below w.heap.size w w') {a : Addr} {v : Value} (h : w.cell? a = some v) : w'.cell? a = some v := by
  rw [hb.cell (lt_of_cell h)]; exact h

def Boxes (w : World) (u v x : Value) (i d j e k f : Int) (w' : World) : Prop :=
  w'.cell? ⟨w.heap.size, 0, none⟩ = some (.int .u64 i) ∧ w'.cell? ⟨w.heap.size, 1, none⟩ = some (.int .u64 d) ∧ w'.cell? ⟨w.heap.size, 2, none⟩ = some u ∧ w'.cell? ⟨w.heap.size + 1, 0, none⟩ = some (.int .u64 j) ∧ w'.cell? ⟨w.heap.size + 1, 1, none⟩ = some (.int .u64 e) ∧ w'.cell? ⟨w.heap.size + 1, 2, none⟩ = some v ∧ w'.cell? ⟨w.heap.size + 1 + 1, 0, none⟩ = some (.int .u64 k) ∧ w'.cell? ⟨w.heap.size + 1 + 1, 1, none⟩ = some (.int .u64 f) ∧ w'.cell? ⟨w.heap.size + 1 + 1, 2, none⟩ = some x ∧ Below w.heap.size w w'

theorem boxes_below {w w1 w2 : World} {u v x : Value} {i d j e k f : Int} (hb : Below w1.heap.size w1 w2) (h : Boxes w u v x i d j e k f w1) : Boxes w u v x i d j e k f w2 := by
  obtain ⟨h0, h1, h2, h3, h4, h5, h6, h7, h8, h9⟩ := h
  exact ⟨below_cells hb h0, below_cells hb h1, below_cells hb h2, below_cells hb h3, below_cells hb h4, below_cells hb h5, below_cells hb h6, below_cells hb h7, below_cells hb h8, h9.trans (hb.mono h9.size)⟩

set_option maxHeartbeats 2000000 in
theorem vecNears (i d j e k f : Int) (u v x : Value) (w : World) :
    Calls Try.prog 6 #[.agg #[.int .u64 i, .int .u64 d, u], .agg #[.int .u64 j, .int .u64 e, v], .agg #[.int .u64 k, .int .u64 f, x]] w fun r w' => r = .returned (.bool true) ∧ Below w.heap.size w w' := by
  go_enter Try.func6, Try.ntmps6
  go_wp2_with fail
  refine (awake_true _).mono ?_
  rintro r w1 ⟨rfl, hb1⟩
  have B1 : Hid (Boxes w u v x i d j e k f w1.drew) := by
    refine ⟨below_cells hb1 ?_, below_cells hb1 ?_, below_cells hb1 ?_, below_cells hb1 ?_, below_cells hb1 ?_, below_cells hb1 ?_, below_cells hb1 ?_, below_cells hb1 ?_, below_cells hb1 ?_, Below.trans ?_ (Below.drew (Below.mono hb1 ?_))⟩
    all_goals first | (go_simp; done) | (simp only [World.size_alloc]; omega) | go_grown
  clear hb1
  cases hab : nearB i d j e
  · go_wp2_with fail
    refine region_go (fun w' => w'.cell? ⟨w.heap.size, 0, none⟩ = some (.int .u64 i) ∧ w'.cell? ⟨w.heap.size, 1, none⟩ = some (.int .u64 d) ∧ w'.cell? ⟨w.heap.size, 2, none⟩ = some u ∧ w'.cell? ⟨w.heap.size + 1, 0, none⟩ = some (.int .u64 j) ∧ w'.cell? ⟨w.heap.size + 1, 1, none⟩ = some (.int .u64 e) ∧ w'.cell? ⟨w.heap.size + 1, 2, none⟩ = some v ∧ w'.cell? ⟨w.heap.size + 1 + 1, 0, none⟩ = some (.int .u64 k) ∧ w'.cell? ⟨w.heap.size + 1 + 1, 1, none⟩ = some (.int .u64 f) ∧ w'.cell? ⟨w.heap.size + 1 + 1, 2, none⟩ = some x ∧ Below w.heap.size w w') (by kernel_rfl) ?hS0 (fun hH => ?_)
    case hS0 =>
      exact B1.out
    refine tkY (v := ?_) 0 hH rfl (fun _ _ _ h => h) ?hc ?hw ?hy ?_
    case hc => decide +kernel
    case hw => rfl
    case hy => (intro w hS; (try dsimp only at hS); go_simp; try with_reducible rfl)
    try simp only [Act.put, List.setIfInBounds_toArray, List.set_cons_zero, List.set_cons_succ]
    refine tkY (v := ?_) 1 hH rfl (fun _ _ _ h => h) ?hc ?hw ?hy ?_
    case hc => decide +kernel
    case hw => rfl
    case hy => (intro w hS; (try dsimp only at hS); go_simp; try with_reducible rfl)
    try simp only [Act.put, List.setIfInBounds_toArray, List.set_cons_zero, List.set_cons_succ]
    refine tkY (v := ?_) 3 hH rfl (fun _ _ _ h => h) ?hc ?hw ?hy ?_
    case hc => decide +kernel
    case hw => rfl
    case hy => (intro w hS; (try dsimp only at hS); go_simp; try with_reducible rfl)
    try simp only [Act.put, List.setIfInBounds_toArray, List.set_cons_zero, List.set_cons_succ]
    refine tkY (v := ?_) 4 hH rfl (fun _ _ _ h => h) ?hc ?hw ?hy ?_
    case hc => decide +kernel
    case hw => rfl
    case hy => (intro w hS; (try dsimp only at hS); go_simp; try with_reducible rfl)
    try simp only [Act.put, List.setIfInBounds_toArray, List.set_cons_zero, List.set_cons_succ]
    refine spk 2 rfl ?hr ?hw (fun K' hK => ?_)
    case hr => decide +kernel
    case hw => rfl
    go_simp
    refine (nearer _ _ _ _ _ _ _).mono ?_
    rintro r w' ⟨rfl, hb⟩
    try dsimp only
    refine hK.out _ _ ?hS (fun hH' => ?_)
    case hS =>
      exact boxes_below hb hH
    clear hK K' hH; have hH := hH'; clear hH'; try simp only [Act.put, List.setIfInBounds_toArray, List.set_cons_zero, List.set_cons_succ]
    refine spk 5 rfl ?hr ?hw (fun K' hK => ?_)
    case hr => decide +kernel
    case hw => rfl
    go_simp
    refine (refNearer _ _ _ _ _ _ _).mono ?_
    rintro r w' ⟨rfl, hb⟩
    try dsimp only
    refine hK.out _ _ ?hS (fun hH' => ?_)
    case hS =>
      exact boxes_below hb hH
    clear hK K' hH; have hH := hH'; clear hH'; try simp only [Act.put, List.setIfInBounds_toArray, List.set_cons_zero, List.set_cons_succ]
    refine tkY (v := ?_) 6 hH rfl (fun _ _ _ h => h) ?hc ?hw ?hy ?_
    case hc => decide +kernel
    case hw => rfl
    case hy => (intro w hS; (try dsimp only at hS); go_simp; try with_reducible rfl)
    try simp only [Act.put, List.setIfInBounds_toArray, List.set_cons_zero, List.set_cons_succ]
    refine tkY (v := ?_) 7 hH rfl (fun _ _ _ h => h) ?hc ?hw ?hy ?_
    case hc => decide +kernel
    case hw => rfl
    case hy => (intro w hS; (try dsimp only at hS); go_simp; try with_reducible rfl)
    try simp only [Act.put, List.setIfInBounds_toArray, List.set_cons_zero, List.set_cons_succ]
    refine tkY (v := ?_) 8 hH rfl (fun _ _ _ h => h) ?hc ?hw ?hy ?_
    case hc => decide +kernel
    case hw => rfl
    case hy => (intro w hS; (try dsimp only at hS); go_simp; try with_reducible rfl)
    try simp only [Act.put, List.setIfInBounds_toArray, List.set_cons_zero, List.set_cons_succ]
    refine tkY (v := ?_) 9 hH rfl (fun _ _ _ h => h) ?hc ?hw ?hy ?_
    case hc => decide +kernel
    case hw => rfl
    case hy => (intro w hS; (try dsimp only at hS); go_simp; try with_reducible rfl)
    try simp only [Act.put, List.setIfInBounds_toArray, List.set_cons_zero, List.set_cons_succ]
    refine spk 10 rfl ?hr ?hw (fun K' hK => ?_)
    case hr => decide +kernel
    case hw => rfl
    go_simp
    refine (nearer _ _ _ _ _ _ _).mono ?_
    rintro r w' ⟨rfl, hb⟩
    try dsimp only
    refine hK.out _ _ ?hS (fun hH' => ?_)
    case hS =>
      exact boxes_below hb hH
    clear hK K' hH; have hH := hH'; clear hH'; try simp only [Act.put, List.setIfInBounds_toArray, List.set_cons_zero, List.set_cons_succ]
    refine tkY (v := ?_) 11 hH rfl (fun _ _ _ h => h) ?hc ?hw ?hy ?_
    case hc => decide +kernel
    case hw => rfl
    case hy => (intro w hS; (try dsimp only at hS); go_simp; try with_reducible rfl)
    try simp only [Act.put, List.setIfInBounds_toArray, List.set_cons_zero, List.set_cons_succ]
    refine tkN 12 hH rfl (fun _ _ _ h => h) ?hc ?hw ?_
    case hc => decide +kernel
    case hw => rfl
    try simp only [Act.put, List.setIfInBounds_toArray, List.set_cons_zero, List.set_cons_succ]
    refine tkN 13 hH rfl (fun _ _ _ h => h) ?hc ?hw ?_
    case hc => decide +kernel
    case hw => rfl
    try simp only [Act.put, List.setIfInBounds_toArray, List.set_cons_zero, List.set_cons_succ]
    refine tkN 14 hH rfl (fun _ _ _ h => h) ?hc ?hw ?_
    case hc => decide +kernel
    case hw => rfl
    try simp only [Act.put, List.setIfInBounds_toArray, List.set_cons_zero, List.set_cons_succ]
    refine tkY (v := ?_) 15 hH rfl (fun _ _ _ h => h) ?hc ?hw ?hy ?_
    case hc => decide +kernel
    case hw => rfl
    case hy => (intro w hS; (try dsimp only at hS); go_simp; try with_reducible rfl)
    try simp only [Act.put, List.setIfInBounds_toArray, List.set_cons_zero, List.set_cons_succ]
    refine tkY (v := ?_) 16 hH rfl (fun _ _ _ h => h) ?hc ?hw ?hy ?_
    case hc => decide +kernel
    case hw => rfl
    case hy => (intro w hS; (try dsimp only at hS); go_simp; try with_reducible rfl)
    try simp only [Act.put, List.setIfInBounds_toArray, List.set_cons_zero, List.set_cons_succ]
    refine wpAnyH_done (by decide +kernel) ?_ _
    try dsimp only at hH
    go_wp2_with (go_at_call 16; refine (nearer _ _ _ _ _ _ _).mono ?_; rintro r w' ⟨rfl, hb⟩; have hH' := boxes_below hb hH; unfold Boxes at hH'; clear hH hb; have hH := hH'; clear hH')
    go_ret
    exact ⟨rfl, hH.2.2.2.2.2.2.2.2.2⟩
  · have hba := nearB_asymm hab
    go_wp2_with fail
    refine region_go (fun w' => w'.cell? ⟨w.heap.size, 0, none⟩ = some (.int .u64 i) ∧ w'.cell? ⟨w.heap.size, 1, none⟩ = some (.int .u64 d) ∧ w'.cell? ⟨w.heap.size, 2, none⟩ = some u ∧ w'.cell? ⟨w.heap.size + 1, 0, none⟩ = some (.int .u64 j) ∧ w'.cell? ⟨w.heap.size + 1, 1, none⟩ = some (.int .u64 e) ∧ w'.cell? ⟨w.heap.size + 1, 2, none⟩ = some v ∧ w'.cell? ⟨w.heap.size + 1 + 1, 0, none⟩ = some (.int .u64 k) ∧ w'.cell? ⟨w.heap.size + 1 + 1, 1, none⟩ = some (.int .u64 f) ∧ w'.cell? ⟨w.heap.size + 1 + 1, 2, none⟩ = some x ∧ Below w.heap.size w w') (by kernel_rfl) ?hS0 (fun hH => ?_)
    case hS0 =>
      exact B1.out
    refine tkY (v := ?_) 0 hH rfl (fun _ _ _ h => h) ?hc ?hw ?hy ?_
    case hc => decide +kernel
    case hw => rfl
    case hy => (intro w hS; (try dsimp only at hS); go_simp; try with_reducible rfl)
    try simp only [Act.put, List.setIfInBounds_toArray, List.set_cons_zero, List.set_cons_succ]
    refine tkY (v := ?_) 1 hH rfl (fun _ _ _ h => h) ?hc ?hw ?hy ?_
    case hc => decide +kernel
    case hw => rfl
    case hy => (intro w hS; (try dsimp only at hS); go_simp; try with_reducible rfl)
    try simp only [Act.put, List.setIfInBounds_toArray, List.set_cons_zero, List.set_cons_succ]
    refine tkY (v := ?_) 3 hH rfl (fun _ _ _ h => h) ?hc ?hw ?hy ?_
    case hc => decide +kernel
    case hw => rfl
    case hy => (intro w hS; (try dsimp only at hS); go_simp; try with_reducible rfl)
    try simp only [Act.put, List.setIfInBounds_toArray, List.set_cons_zero, List.set_cons_succ]
    refine tkY (v := ?_) 4 hH rfl (fun _ _ _ h => h) ?hc ?hw ?hy ?_
    case hc => decide +kernel
    case hw => rfl
    case hy => (intro w hS; (try dsimp only at hS); go_simp; try with_reducible rfl)
    try simp only [Act.put, List.setIfInBounds_toArray, List.set_cons_zero, List.set_cons_succ]
    refine spk 2 rfl ?hr ?hw (fun K' hK => ?_)
    case hr => decide +kernel
    case hw => rfl
    go_simp
    refine (nearer _ _ _ _ _ _ _).mono ?_
    rintro r w' ⟨rfl, hb⟩
    try dsimp only
    refine hK.out _ _ ?hS (fun hH' => ?_)
    case hS =>
      exact boxes_below hb hH
    clear hK K' hH; have hH := hH'; clear hH'; try simp only [Act.put, List.setIfInBounds_toArray, List.set_cons_zero, List.set_cons_succ]
    refine spk 5 rfl ?hr ?hw (fun K' hK => ?_)
    case hr => decide +kernel
    case hw => rfl
    go_simp
    refine (refNearer _ _ _ _ _ _ _).mono ?_
    rintro r w' ⟨rfl, hb⟩
    try dsimp only
    refine hK.out _ _ ?hS (fun hH' => ?_)
    case hS =>
      exact boxes_below hb hH
    clear hK K' hH; have hH := hH'; clear hH'; try simp only [Act.put, List.setIfInBounds_toArray, List.set_cons_zero, List.set_cons_succ]
    refine tkY (v := ?_) 6 hH rfl (fun _ _ _ h => h) ?hc ?hw ?hy ?_
    case hc => decide +kernel
    case hw => rfl
    case hy => (intro w hS; (try dsimp only at hS); go_simp; try with_reducible rfl)
    try simp only [Act.put, List.setIfInBounds_toArray, List.set_cons_zero, List.set_cons_succ]
    refine tkY (v := ?_) 7 hH rfl (fun _ _ _ h => h) ?hc ?hw ?hy ?_
    case hc => decide +kernel
    case hw => rfl
    case hy => (intro w hS; (try dsimp only at hS); go_simp; try with_reducible rfl)
    try simp only [Act.put, List.setIfInBounds_toArray, List.set_cons_zero, List.set_cons_succ]
    refine tkY (v := ?_) 8 hH rfl (fun _ _ _ h => h) ?hc ?hw ?hy ?_
    case hc => decide +kernel
    case hw => rfl
    case hy => (intro w hS; (try dsimp only at hS); go_simp; try with_reducible rfl)
    try simp only [Act.put, List.setIfInBounds_toArray, List.set_cons_zero, List.set_cons_succ]
    refine tkY (v := ?_) 9 hH rfl (fun _ _ _ h => h) ?hc ?hw ?hy ?_
    case hc => decide +kernel
    case hw => rfl
    case hy => (intro w hS; (try dsimp only at hS); go_simp; try with_reducible rfl)
    try simp only [Act.put, List.setIfInBounds_toArray, List.set_cons_zero, List.set_cons_succ]
    refine spk 10 rfl ?hr ?hw (fun K' hK => ?_)
    case hr => decide +kernel
    case hw => rfl
    go_simp
    refine (nearer _ _ _ _ _ _ _).mono ?_
    rintro r w' ⟨rfl, hb⟩
    try dsimp only
    refine hK.out _ _ ?hS (fun hH' => ?_)
    case hS =>
      exact boxes_below hb hH
    clear hK K' hH; have hH := hH'; clear hH'; try simp only [Act.put, List.setIfInBounds_toArray, List.set_cons_zero, List.set_cons_succ]
    refine tkY (v := ?_) 11 hH rfl (fun _ _ _ h => h) ?hc ?hw ?hy ?_
    case hc => decide +kernel
    case hw => rfl
    case hy => (intro w hS; (try dsimp only at hS); go_simp; try with_reducible rfl)
    try simp only [Act.put, List.setIfInBounds_toArray, List.set_cons_zero, List.set_cons_succ]
    refine tkY (v := ?_) 12 hH rfl (fun _ _ _ h => h) ?hc ?hw ?hy ?_
    case hc => decide +kernel
    case hw => rfl
    case hy => (intro w hS; (try dsimp only at hS); go_simp; try with_reducible rfl)
    try simp only [Act.put, List.setIfInBounds_toArray, List.set_cons_zero, List.set_cons_succ]
    refine tkY (v := ?_) 13 hH rfl (fun _ _ _ h => h) ?hc ?hw ?hy ?_
    case hc => decide +kernel
    case hw => rfl
    case hy => (intro w hS; (try dsimp only at hS); go_simp; try with_reducible rfl)
    try simp only [Act.put, List.setIfInBounds_toArray, List.set_cons_zero, List.set_cons_succ]
    refine spk 14 rfl ?hr ?hw (fun K' hK => ?_)
    case hr => decide +kernel
    case hw => rfl
    go_simp
    refine (nearer _ _ _ _ _ _ _).mono ?_
    rintro r w' ⟨rfl, hb⟩
    try dsimp only
    refine hK.out _ _ ?hS (fun hH' => ?_)
    case hS =>
      exact boxes_below hb hH
    clear hK K' hH; have hH := hH'; clear hH'; try simp only [Act.put, List.setIfInBounds_toArray, List.set_cons_zero, List.set_cons_succ]
    refine tkY (v := ?_) 15 hH rfl (fun _ _ _ h => h) ?hc ?hw ?hy ?_
    case hc => decide +kernel
    case hw => rfl
    case hy => (intro w hS; (try dsimp only at hS); go_simp; try with_reducible rfl)
    try simp only [Act.put, List.setIfInBounds_toArray, List.set_cons_zero, List.set_cons_succ]
    refine tkY (v := ?_) 16 hH rfl (fun _ _ _ h => h) ?hc ?hw ?hy ?_
    case hc => decide +kernel
    case hw => rfl
    case hy => (intro w hS; (try dsimp only at hS); go_simp; try with_reducible rfl)
    try simp only [Act.put, List.setIfInBounds_toArray, List.set_cons_zero, List.set_cons_succ]
    refine wpAnyH_done (by decide +kernel) ?_ _
    try dsimp only at hH
    cases hbc : nearB j e k f
    · go_wp2_with (go_at_call 16; refine (nearer _ _ _ _ _ _ _).mono ?_; rintro r w' ⟨rfl, hb⟩; have hH' := boxes_below hb hH; unfold Boxes at hH'; clear hH hb; have hH := hH'; clear hH')
      go_ret
      exact ⟨rfl, hH.2.2.2.2.2.2.2.2.2⟩
    · have hac := nearB_trans hab hbc
      go_wp2_with (go_at_call 16; refine (nearer _ _ _ _ _ _ _).mono ?_; rintro r w' ⟨rfl, hb⟩; have hH' := boxes_below hb hH; unfold Boxes at hH'; clear hH hb; have hH := hH'; clear hH')
      go_ret
      exact ⟨rfl, hH.2.2.2.2.2.2.2.2.2⟩

end Go.Proofs.Ytidaecdlpjfngaa
