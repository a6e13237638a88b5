/-
  graph's laws: a pair of graphs, or of no graphs.
-/
import Derived.Test.YtdbeekdnehojnaaJ39
import Derived.Test.YtdbeekdnehojnaaJ08
namespace Go.Proofs.Ytdbeekdnehojnaa
open Go.RowKit Go.ChangeMaps


set_option maxRecDepth 100000 in
set_option maxHeartbeats 8000000 in
theorem lawDo_nil (w : World) (a x y : Int) (ha : 0 ≤ a ∧ a ≤ 255) :
    Calls Try.prog 11 #[.pointer none, .pointer none, .agg #[.int .u8 a, .int .u64 x, .int .u64 y]] w fun e w' => e = .returned (.bool true) ∧ Below w.heap.size w w' := by
  have ha0 := ha.1
  obtain ⟨r, hr⟩ : ∃ r, r = a % 6 := ⟨_, rfl⟩
  have hr6 : r = 0 ∨ r = 1 ∨ r = 2 ∨ r = 3 ∨ r = 4 ∨ r = 5 := by omega
  rcases hr6 with rfl | rfl | rfl | rfl | rfl | rfl
  · have hr' : a % 6 = 0 := hr.symm
    clear hr ha
    go_enter Try.func11, Try.ntmps11
    go_wp2_with fail
    obtain ⟨W0, hW0⟩ : ∃ W0, W0 = (w.alloc (.cells #[.int .u8 a, .int .u64 x, .int .u64 y] 33)).drew := ⟨_, rfl⟩
    have hb0 : Below w.heap.size w W0 := by rw [hW0]; exact ((Below.refl _ w).alloc (Nat.le_refl _) _).drew
    have bx : W0.heap[w.heap.size]? = some (.cells #[.int .u8 a, .int .u64 x, .int .u64 y] 33 (0, 0)) := by rw [hW0]; exact heap_alloc_new _ _
    have HB0 := Lib.hid hb0
    have HW := Lib.hid hW0
    have d1 := cells_get bx 1
    have d2 := cells_get bx 2
    clear hW0 hb0
    refine region_go (fun w' => w'.cell? ⟨w.heap.size, 1, none⟩ = some (.int .u64 x) ∧ w'.cell? ⟨w.heap.size, 2, none⟩ = some (.int .u64 y)) (by kernel_rfl) ?hS0 (fun hH => ?_)
    case hS0 =>
      rw [← HW.out]; exact ⟨d1, d2⟩
    rw [← HW.out] at hH ⊢
    refine kY 0 hH ?_
    repeat simp only [Act.put, uA1, uB1, uC1]
    refine kY 1 hH ?_
    repeat simp only [Act.put, uA1, uB1, uC1]
    refine kY 2 hH ?_
    repeat simp only [Act.put, uA1, uB1, uC1]
    refine kY 4 hH ?_
    repeat simp only [Act.put, uA1, uB1, uC1]
    refine kY 5 hH ?_
    repeat simp only [Act.put, uA1, uB1, uC1]
    refine kY 6 hH ?_
    repeat simp only [Act.put, uA1, uB1, uC1]
    refine spk 3 rfl (by decide +kernel) (by rfl) (fun K' hK => ?_)
    go_simp
    go_at_call 18
    refine (gAdd_nil W0 x).mono ?_
    rintro e w1 ⟨rfl, hw⟩
    obtain rfl : W0 = w1 := hw.symm
    try dsimp only
    refine hK.out _ _ ?hS (fun hH' => ?_)
    case hS =>
      exact ⟨d1, d2⟩
    clear hK K' hH; have hH := hH'; clear hH'; repeat simp only [Act.put, uA1, uB1, uC1]
    refine spk 7 rfl (by decide +kernel) (by rfl) (fun K' hK => ?_)
    go_simp
    go_at_call 23
    refine (dAdd_nil W0 x).mono ?_
    rintro e w2 ⟨rfl, hw⟩
    obtain rfl : W0 = w2 := hw.symm
    try dsimp only
    refine hK.out _ _ ?hS (fun hH' => ?_)
    case hS =>
      exact ⟨d1, d2⟩
    clear hK K' hH; have hH := hH'; clear hH'; repeat simp only [Act.put, uA1, uB1, uC1]
    refine kY 8 hH ?_
    repeat simp only [Act.put, uA1, uB1, uC1]
    refine kY 9 hH ?_
    repeat simp only [Act.put, uA1, uB1, uC1]
    refine wpAnyH_done (by decide +kernel) ?_ _
    go_wp2_with fail
    go_ret
    exact ⟨ret_bool (by simp), HB0.out⟩
  · have hr' : a % 6 = 1 := hr.symm
    clear hr ha
    go_enter Try.func11, Try.ntmps11
    go_wp2_with fail
    obtain ⟨W0, hW0⟩ : ∃ W0, W0 = (w.alloc (.cells #[.int .u8 a, .int .u64 x, .int .u64 y] 33)).drew := ⟨_, rfl⟩
    have hb0 : Below w.heap.size w W0 := by rw [hW0]; exact ((Below.refl _ w).alloc (Nat.le_refl _) _).drew
    have bx : W0.heap[w.heap.size]? = some (.cells #[.int .u8 a, .int .u64 x, .int .u64 y] 33 (0, 0)) := by rw [hW0]; exact heap_alloc_new _ _
    have HB0 := Lib.hid hb0
    have HW := Lib.hid hW0
    have d1 := cells_get bx 1
    have d2 := cells_get bx 2
    clear hW0 hb0
    refine region_go (fun w' => w'.cell? ⟨w.heap.size, 1, none⟩ = some (.int .u64 x) ∧ w'.cell? ⟨w.heap.size, 2, none⟩ = some (.int .u64 y)) (by kernel_rfl) ?hS0 (fun hH => ?_)
    case hS0 =>
      rw [← HW.out]; exact ⟨d1, d2⟩
    rw [← HW.out] at hH ⊢
    refine kY 0 hH ?_
    repeat simp only [Act.put, uA1, uB1, uC1]
    refine kY 1 hH ?_
    repeat simp only [Act.put, uA1, uB1, uC1]
    refine kY 2 hH ?_
    repeat simp only [Act.put, uA1, uB1, uC1]
    refine kY 4 hH ?_
    repeat simp only [Act.put, uA1, uB1, uC1]
    refine kY 5 hH ?_
    repeat simp only [Act.put, uA1, uB1, uC1]
    refine kY 6 hH ?_
    repeat simp only [Act.put, uA1, uB1, uC1]
    refine spk 3 rfl (by decide +kernel) (by rfl) (fun K' hK => ?_)
    go_simp
    go_at_call 18
    refine (gAdd_nil W0 x).mono ?_
    rintro e w1 ⟨rfl, hw⟩
    obtain rfl : W0 = w1 := hw.symm
    try dsimp only
    refine hK.out _ _ ?hS (fun hH' => ?_)
    case hS =>
      exact ⟨d1, d2⟩
    clear hK K' hH; have hH := hH'; clear hH'; repeat simp only [Act.put, uA1, uB1, uC1]
    refine spk 7 rfl (by decide +kernel) (by rfl) (fun K' hK => ?_)
    go_simp
    go_at_call 23
    refine (dAdd_nil W0 x).mono ?_
    rintro e w2 ⟨rfl, hw⟩
    obtain rfl : W0 = w2 := hw.symm
    try dsimp only
    refine hK.out _ _ ?hS (fun hH' => ?_)
    case hS =>
      exact ⟨d1, d2⟩
    clear hK K' hH; have hH := hH'; clear hH'; repeat simp only [Act.put, uA1, uB1, uC1]
    refine kY 8 hH ?_
    repeat simp only [Act.put, uA1, uB1, uC1]
    refine kY 9 hH ?_
    repeat simp only [Act.put, uA1, uB1, uC1]
    refine wpAnyH_done (by decide +kernel) ?_ _
    go_wp2_with fail
    go_ret
    exact ⟨ret_bool (by simp), HB0.out⟩
  · have hr' : a % 6 = 2 := hr.symm
    clear hr ha
    go_enter Try.func11, Try.ntmps11
    go_wp2_with fail
    obtain ⟨W0, hW0⟩ : ∃ W0, W0 = (w.alloc (.cells #[.int .u8 a, .int .u64 x, .int .u64 y] 33)).drew := ⟨_, rfl⟩
    have hb0 : Below w.heap.size w W0 := by rw [hW0]; exact ((Below.refl _ w).alloc (Nat.le_refl _) _).drew
    have bx : W0.heap[w.heap.size]? = some (.cells #[.int .u8 a, .int .u64 x, .int .u64 y] 33 (0, 0)) := by rw [hW0]; exact heap_alloc_new _ _
    have HB0 := Lib.hid hb0
    have HW := Lib.hid hW0
    have d1 := cells_get bx 1
    have d2 := cells_get bx 2
    clear hW0 hb0
    refine region_go (fun w' => w'.cell? ⟨w.heap.size, 1, none⟩ = some (.int .u64 x) ∧ w'.cell? ⟨w.heap.size, 2, none⟩ = some (.int .u64 y)) (by kernel_rfl) ?hS0 (fun hH => ?_)
    case hS0 =>
      rw [← HW.out]; exact ⟨d1, d2⟩
    rw [← HW.out] at hH ⊢
    refine kY 0 hH ?_
    repeat simp only [Act.put, uA1, uB1, uC1]
    refine kY 1 hH ?_
    repeat simp only [Act.put, uA1, uB1, uC1]
    refine kY 2 hH ?_
    repeat simp only [Act.put, uA1, uB1, uC1]
    refine kY 3 hH ?_
    repeat simp only [Act.put, uA1, uB1, uC1]
    refine kY 4 hH ?_
    repeat simp only [Act.put, uA1, uB1, uC1]
    refine kY 6 hH ?_
    repeat simp only [Act.put, uA1, uB1, uC1]
    refine kY 7 hH ?_
    repeat simp only [Act.put, uA1, uB1, uC1]
    refine kY 8 hH ?_
    repeat simp only [Act.put, uA1, uB1, uC1]
    refine kY 9 hH ?_
    repeat simp only [Act.put, uA1, uB1, uC1]
    refine kY 10 hH ?_
    repeat simp only [Act.put, uA1, uB1, uC1]
    refine spk 5 rfl (by decide +kernel) (by rfl) (fun K' hK => ?_)
    go_simp
    go_at_call 16
    refine (gBind_nil W0 x y).mono ?_
    rintro e w1 ⟨rfl, hw⟩
    obtain rfl : W0 = w1 := hw.symm
    try dsimp only
    refine hK.out _ _ ?hS (fun hH' => ?_)
    case hS =>
      exact ⟨d1, d2⟩
    clear hK K' hH; have hH := hH'; clear hH'; repeat simp only [Act.put, uA1, uB1, uC1]
    refine spk 11 rfl (by decide +kernel) (by rfl) (fun K' hK => ?_)
    go_simp
    go_at_call 28
    refine (dBind_nil W0 x y).mono ?_
    rintro e w2 ⟨rfl, hw⟩
    obtain rfl : W0 = w2 := hw.symm
    try dsimp only
    refine hK.out _ _ ?hS (fun hH' => ?_)
    case hS =>
      exact ⟨d1, d2⟩
    clear hK K' hH; have hH := hH'; clear hH'; repeat simp only [Act.put, uA1, uB1, uC1]
    refine kY 12 hH ?_
    repeat simp only [Act.put, uA1, uB1, uC1]
    refine kY 13 hH ?_
    repeat simp only [Act.put, uA1, uB1, uC1]
    refine wpAnyH_done (by decide +kernel) ?_ _
    go_wp2_with fail
    go_ret
    exact ⟨ret_bool (by simp), HB0.out⟩
  · have hr' : a % 6 = 3 := hr.symm
    clear hr ha
    go_enter Try.func11, Try.ntmps11
    go_wp2_with fail
    obtain ⟨W0, hW0⟩ : ∃ W0, W0 = (w.alloc (.cells #[.int .u8 a, .int .u64 x, .int .u64 y] 33)).drew := ⟨_, rfl⟩
    have hb0 : Below w.heap.size w W0 := by rw [hW0]; exact ((Below.refl _ w).alloc (Nat.le_refl _) _).drew
    have bx : W0.heap[w.heap.size]? = some (.cells #[.int .u8 a, .int .u64 x, .int .u64 y] 33 (0, 0)) := by rw [hW0]; exact heap_alloc_new _ _
    have HB0 := Lib.hid hb0
    have HW := Lib.hid hW0
    have d1 := cells_get bx 1
    have d2 := cells_get bx 2
    clear hW0 hb0
    refine region_go (fun w' => w'.cell? ⟨w.heap.size, 1, none⟩ = some (.int .u64 x) ∧ w'.cell? ⟨w.heap.size, 2, none⟩ = some (.int .u64 y)) (by kernel_rfl) ?hS0 (fun hH => ?_)
    case hS0 =>
      rw [← HW.out]; exact ⟨d1, d2⟩
    rw [← HW.out] at hH ⊢
    refine kY 0 hH ?_
    repeat simp only [Act.put, uA1, uB1, uC1]
    refine kY 1 hH ?_
    repeat simp only [Act.put, uA1, uB1, uC1]
    refine kY 2 hH ?_
    repeat simp only [Act.put, uA1, uB1, uC1]
    refine kY 3 hH ?_
    repeat simp only [Act.put, uA1, uB1, uC1]
    refine kY 4 hH ?_
    repeat simp only [Act.put, uA1, uB1, uC1]
    refine kY 6 hH ?_
    repeat simp only [Act.put, uA1, uB1, uC1]
    refine kY 7 hH ?_
    repeat simp only [Act.put, uA1, uB1, uC1]
    refine kY 8 hH ?_
    repeat simp only [Act.put, uA1, uB1, uC1]
    refine kY 9 hH ?_
    repeat simp only [Act.put, uA1, uB1, uC1]
    refine kY 10 hH ?_
    repeat simp only [Act.put, uA1, uB1, uC1]
    refine spk 5 rfl (by decide +kernel) (by rfl) (fun K' hK => ?_)
    go_simp
    go_at_call 27
    refine (gLink_nil W0 x y).mono ?_
    rintro e w1 ⟨rfl, hw⟩
    obtain rfl : W0 = w1 := hw.symm
    try dsimp only
    refine hK.out _ _ ?hS (fun hH' => ?_)
    case hS =>
      exact ⟨d1, d2⟩
    clear hK K' hH; have hH := hH'; clear hH'; repeat simp only [Act.put, uA1, uB1, uC1]
    refine spk 11 rfl (by decide +kernel) (by rfl) (fun K' hK => ?_)
    go_simp
    go_at_call 29
    refine (dLink_nil W0 x y).mono ?_
    rintro e w2 ⟨rfl, hw⟩
    obtain rfl : W0 = w2 := hw.symm
    try dsimp only
    refine hK.out _ _ ?hS (fun hH' => ?_)
    case hS =>
      exact ⟨d1, d2⟩
    clear hK K' hH; have hH := hH'; clear hH'; repeat simp only [Act.put, uA1, uB1, uC1]
    refine kY 12 hH ?_
    repeat simp only [Act.put, uA1, uB1, uC1]
    refine kY 13 hH ?_
    repeat simp only [Act.put, uA1, uB1, uC1]
    refine wpAnyH_done (by decide +kernel) ?_ _
    go_wp2_with fail
    go_ret
    exact ⟨ret_bool (by simp), HB0.out⟩
  · have hr' : a % 6 = 4 := hr.symm
    clear hr ha
    go_enter Try.func11, Try.ntmps11
    go_wp2_with fail
    obtain ⟨W0, hW0⟩ : ∃ W0, W0 = (w.alloc (.cells #[.int .u8 a, .int .u64 x, .int .u64 y] 33)).drew := ⟨_, rfl⟩
    have hb0 : Below w.heap.size w W0 := by rw [hW0]; exact ((Below.refl _ w).alloc (Nat.le_refl _) _).drew
    have bx : W0.heap[w.heap.size]? = some (.cells #[.int .u8 a, .int .u64 x, .int .u64 y] 33 (0, 0)) := by rw [hW0]; exact heap_alloc_new _ _
    have HB0 := Lib.hid hb0
    have HW := Lib.hid hW0
    have d1 := cells_get bx 1
    have d2 := cells_get bx 2
    clear hW0 hb0
    refine region_go (fun w' => w'.cell? ⟨w.heap.size, 1, none⟩ = some (.int .u64 x) ∧ w'.cell? ⟨w.heap.size, 2, none⟩ = some (.int .u64 y)) (by kernel_rfl) ?hS0 (fun hH => ?_)
    case hS0 =>
      rw [← HW.out]; exact ⟨d1, d2⟩
    rw [← HW.out] at hH ⊢
    refine kY 0 hH ?_
    repeat simp only [Act.put, uA1, uB1, uC1]
    refine kY 1 hH ?_
    repeat simp only [Act.put, uA1, uB1, uC1]
    refine kY 2 hH ?_
    repeat simp only [Act.put, uA1, uB1, uC1]
    refine kY 3 hH ?_
    repeat simp only [Act.put, uA1, uB1, uC1]
    refine kY 4 hH ?_
    repeat simp only [Act.put, uA1, uB1, uC1]
    refine kY 6 hH ?_
    repeat simp only [Act.put, uA1, uB1, uC1]
    refine kY 7 hH ?_
    repeat simp only [Act.put, uA1, uB1, uC1]
    refine kY 8 hH ?_
    repeat simp only [Act.put, uA1, uB1, uC1]
    refine kY 9 hH ?_
    repeat simp only [Act.put, uA1, uB1, uC1]
    refine kY 10 hH ?_
    repeat simp only [Act.put, uA1, uB1, uC1]
    refine spk 5 rfl (by decide +kernel) (by rfl) (fun K' hK => ?_)
    go_simp
    go_at_call 27
    refine (gLink_nil W0 x y).mono ?_
    rintro e w1 ⟨rfl, hw⟩
    obtain rfl : W0 = w1 := hw.symm
    try dsimp only
    refine hK.out _ _ ?hS (fun hH' => ?_)
    case hS =>
      exact ⟨d1, d2⟩
    clear hK K' hH; have hH := hH'; clear hH'; repeat simp only [Act.put, uA1, uB1, uC1]
    refine spk 11 rfl (by decide +kernel) (by rfl) (fun K' hK => ?_)
    go_simp
    go_at_call 29
    refine (dLink_nil W0 x y).mono ?_
    rintro e w2 ⟨rfl, hw⟩
    obtain rfl : W0 = w2 := hw.symm
    try dsimp only
    refine hK.out _ _ ?hS (fun hH' => ?_)
    case hS =>
      exact ⟨d1, d2⟩
    clear hK K' hH; have hH := hH'; clear hH'; repeat simp only [Act.put, uA1, uB1, uC1]
    refine kY 12 hH ?_
    repeat simp only [Act.put, uA1, uB1, uC1]
    refine kY 13 hH ?_
    repeat simp only [Act.put, uA1, uB1, uC1]
    refine wpAnyH_done (by decide +kernel) ?_ _
    go_wp2_with fail
    go_ret
    exact ⟨ret_bool (by simp), HB0.out⟩
  · have hr' : a % 6 = 5 := hr.symm
    clear hr ha
    go_enter Try.func11, Try.ntmps11
    go_wp2_with fail
    obtain ⟨W0, hW0⟩ : ∃ W0, W0 = (w.alloc (.cells #[.int .u8 a, .int .u64 x, .int .u64 y] 33)).drew := ⟨_, rfl⟩
    have hb0 : Below w.heap.size w W0 := by rw [hW0]; exact ((Below.refl _ w).alloc (Nat.le_refl _) _).drew
    have bx : W0.heap[w.heap.size]? = some (.cells #[.int .u8 a, .int .u64 x, .int .u64 y] 33 (0, 0)) := by rw [hW0]; exact heap_alloc_new _ _
    have HB0 := Lib.hid hb0
    have HW := Lib.hid hW0
    have d1 := cells_get bx 1
    have d2 := cells_get bx 2
    clear hW0 hb0
    refine region_go (fun w' => w'.cell? ⟨w.heap.size, 1, none⟩ = some (.int .u64 x) ∧ w'.cell? ⟨w.heap.size, 2, none⟩ = some (.int .u64 y)) (by kernel_rfl) ?hS0 (fun hH => ?_)
    case hS0 =>
      rw [← HW.out]; exact ⟨d1, d2⟩
    rw [← HW.out] at hH ⊢
    refine kY 0 hH ?_
    repeat simp only [Act.put, uA1, uB1, uC1]
    refine kY 1 hH ?_
    repeat simp only [Act.put, uA1, uB1, uC1]
    refine kY 2 hH ?_
    repeat simp only [Act.put, uA1, uB1, uC1]
    refine kY 3 hH ?_
    repeat simp only [Act.put, uA1, uB1, uC1]
    refine kY 4 hH ?_
    repeat simp only [Act.put, uA1, uB1, uC1]
    refine kY 6 hH ?_
    repeat simp only [Act.put, uA1, uB1, uC1]
    refine kY 7 hH ?_
    repeat simp only [Act.put, uA1, uB1, uC1]
    refine kY 8 hH ?_
    repeat simp only [Act.put, uA1, uB1, uC1]
    refine kY 9 hH ?_
    repeat simp only [Act.put, uA1, uB1, uC1]
    refine kY 10 hH ?_
    repeat simp only [Act.put, uA1, uB1, uC1]
    refine spk 5 rfl (by decide +kernel) (by rfl) (fun K' hK => ?_)
    go_simp
    go_at_call 12
    refine (gCut_nil W0 x y).mono ?_
    rintro e w1 ⟨rfl, hw⟩
    obtain rfl : W0 = w1 := hw.symm
    try dsimp only
    refine hK.out _ _ ?hS (fun hH' => ?_)
    case hS =>
      exact ⟨d1, d2⟩
    clear hK K' hH; have hH := hH'; clear hH'; repeat simp only [Act.put, uA1, uB1, uC1]
    refine spk 11 rfl (by decide +kernel) (by rfl) (fun K' hK => ?_)
    go_simp
    go_at_call 30
    refine (dCut_nil W0 x y).mono ?_
    rintro e w2 ⟨rfl, hw⟩
    obtain rfl : W0 = w2 := hw.symm
    try dsimp only
    refine hK.out _ _ ?hS (fun hH' => ?_)
    case hS =>
      exact ⟨d1, d2⟩
    clear hK K' hH; have hH := hH'; clear hH'; repeat simp only [Act.put, uA1, uB1, uC1]
    refine kY 12 hH ?_
    repeat simp only [Act.put, uA1, uB1, uC1]
    refine kY 13 hH ?_
    repeat simp only [Act.put, uA1, uB1, uC1]
    refine wpAnyH_done (by decide +kernel) ?_ _
    go_wp2_with fail
    go_ret
    exact ⟨ret_bool (by simp), HB0.out⟩

/-- of no graph -/
theorem gSoft_nil (w : World) (k : Int) :
    Calls Try.prog 22 #[.pointer none, .int .u64 k] w fun e w' => e = .returned (.slice none 0 0) ∧ Below w.heap.size w w' := by
  obtain ⟨W1, hW1⟩ : ∃ W1, W1 = (w.alloc (.cells #[.pointer none] 24)).alloc (.cells #[.int .u64 k] 31) := ⟨_, rfl⟩
  have hb1 : Below w.heap.size w W1 := by rw [hW1]; exact ((Below.refl _ w).alloc (Nat.le_refl _) _).alloc (by simp) _
  have HW := Lib.hid hW1
  have HB := Lib.hid hb1
  clear hW1 hb1
  go_enter Try.func22, Try.ntmps22
  go_wp2_with (first
    | (go_at_call 21; rw [← HW.out]; refine (gNear_nil _ _).mono ?_; rintro e w' ⟨rfl, rfl⟩)
    | (go_at_call 38; refine (del_nil _ _ _).mono ?_; rintro e w2 ⟨rfl, rfl⟩))
  go_ret
  exact ⟨rfl, HB.out⟩

theorem GS.dnear {B p m c : Nat} {Q : Gr} {N : List Int} {E : Eg} {w : World} (h : GS B p m c Q N E w) (hl : E.length ≤ 100000) (x : Int) (s : Bool) :
    Calls Try.prog 24 #[.pointer (some ⟨c, 0, none⟩), .int .u64 x, .bool s] w (NewL w (nearD E x s)) := by
  obtain ⟨vn, ve, hd⟩ := h.d
  exact dNear w B c N E vn ve x s hd (by omega)

theorem GS.dreach {B p m c : Nat} {Q : Gr} {N : List Int} {E : Eg} {w : World} (h : GS B p m c Q N E w) (hl : E.length ≤ 100000) (x : Int) (s : Bool) :
    Calls Try.prog 13 #[.pointer (some ⟨c, 0, none⟩), .int .u64 x, .bool s] w (NewL w (reachD N E x s)) := by
  obtain ⟨vn, ve, hd⟩ := h.d
  unfold reachD
  by_cases hx : x ∈ N
  · rw [if_pos hx]; exact dReach w B c N E vn ve x s hd hx (by omega)
  · rw [if_neg hx]; exact (dReach_no w B c N E vn ve x s hd hx).mono fun e w' hh => NewL.nil hh.1 hh.2

theorem GS.dhas {B p m c : Nat} {Q : Gr} {N : List Int} {E : Eg} {w : World} (h : GS B p m c Q N E w) (x : Int) :
    Calls Try.prog 26 #[.pointer (some ⟨c, 0, none⟩), .int .u64 x] w fun e w' => e = .returned (.bool (decide (x ∈ N))) ∧ w' = w := by
  obtain ⟨vn, ve, hd⟩ := h.d
  exact (dHas w B c N E vn ve x hd).mono fun e w' hh => ⟨hh.1, hh.2.symm⟩

/-- two graphs, or none -/
inductive GX (B : Nat) (w : World) : Option Addr → Option Addr → List Int → Eg → Prop
  | two {p m c : Nat} {Q : Gr} {N : List Int} {E : Eg} (h : GS B p m c Q N E w) : GX B w (some ⟨p, 0, none⟩) (some ⟨c, 0, none⟩) N E
  | none (hB : B ≤ w.heap.size) : GX B w none none [] []

theorem GX.big {B : Nat} {w : World} {gp xp : Option Addr} {N : List Int} {E : Eg} (h : GX B w gp xp N E) : B ≤ w.heap.size := by
  cases h with
  | two h => exact h.big
  | none h => exact h

theorem GX.below {B : Nat} {w w' : World} {gp xp : Option Addr} {N : List Int} {E : Eg} (h : GX B w gp xp N E) (hb : Below w.heap.size w w') : GX B w' gp xp N E := by
  cases h with
  | two h => exact .two (h.below hb)
  | none h => exact .none (Nat.le_trans h hb.size)

theorem GX.doit {B : Nat} {w : World} {gp xp : Option Addr} {N : List Int} {E : Eg} (h : GX B w gp xp N E) (hN : N.length ≤ 100000) (hE : E.length ≤ 100000) (a x y : Int) (ha : 0 ≤ a ∧ a ≤ 255) :
    Calls Try.prog 11 #[.pointer gp, .pointer xp, .agg #[.int .u8 a, .int .u64 x, .int .u64 y]] w fun e w' =>
      e = .returned (.bool true) ∧ ∃ N' E', GX B w' gp xp N' E' ∧ N'.length ≤ N.length + 1 ∧ E'.length ≤ E.length + 1 ∧ Mod (Turn w B) w w' := by
  cases h with
  | two h =>
    refine (lawDo w B _ _ _ _ N E a x y h hN hE ha).mono ?_
    rintro e w' ⟨rfl, Q', hG, hm⟩
    exact ⟨rfl, _, _, .two hG, doN_len N a x, doE_len N E a x y, hm⟩
  | none h =>
    refine (lawDo_nil w a x y ha).mono ?_
    rintro e w' ⟨rfl, hb⟩
    exact ⟨rfl, [], [], .none (Nat.le_trans h hb.size), by simp, by simp, Mod.of_below hb⟩

theorem newL_of {w : World} {e : Ending} {w' : World} (h : e = .returned (.slice none 0 0) ∧ w' = w) : NewL w [] e w' := NewL.nil h.1 h.2

theorem GX.near {B : Nat} {w : World} {gp xp : Option Addr} {N : List Int} {E : Eg} (h : GX B w gp xp N E) (hN : N.length ≤ 100000) (x : Int) :
    Calls Try.prog 21 #[.pointer gp, .int .u64 x] w (NewL w (nearD E x false)) := by
  cases h with
  | two h => exact h.gp.near hN x
  | none h => exact (gNear_nil w x).mono fun _ _ hh => newL_of hh

theorem GX.soft {B : Nat} {w : World} {gp xp : Option Addr} {N : List Int} {E : Eg} (h : GX B w gp xp N E) (hN : N.length ≤ 100000) (x : Int) :
    Calls Try.prog 22 #[.pointer gp, .int .u64 x] w (NewL w (nearD E x true)) := by
  cases h with
  | two h => exact h.gp.soft hN x
  | none h => exact (gSoft_nil w x).mono fun _ _ hh => ⟨_, hh.1, ⟨rfl, .inl ⟨rfl, rfl⟩⟩, hh.2⟩

theorem GX.reach {B : Nat} {w : World} {gp xp : Option Addr} {N : List Int} {E : Eg} (h : GX B w gp xp N E) (hN : N.length ≤ 100000) (x : Int) :
    Calls Try.prog 15 #[.pointer gp, .int .u64 x] w (NewL w (reachD N E x false)) := by
  cases h with
  | two h => exact h.gp.reach hN x
  | none h => exact (gReach_nil w x).mono fun _ _ hh => newL_of hh

theorem GX.has {B : Nat} {w : World} {gp xp : Option Addr} {N : List Int} {E : Eg} (h : GX B w gp xp N E) (x : Int) :
    Calls Try.prog 25 #[.pointer gp, .int .u64 x] w fun e w' => e = .returned (.bool (decide (x ∈ N))) ∧ w' = w := by
  cases h with
  | two h => exact h.gp.has x
  | none h => exact (gHas_nil w x).mono fun _ _ hh => ⟨by rw [hh.1]; simp, hh.2⟩

theorem GX.dnear {B : Nat} {w : World} {gp xp : Option Addr} {N : List Int} {E : Eg} (h : GX B w gp xp N E) (hE : E.length ≤ 100000) (x : Int) (s : Bool) :
    Calls Try.prog 24 #[.pointer xp, .int .u64 x, .bool s] w (NewL w (nearD E x s)) := by
  cases h with
  | two h => exact h.dnear hE x s
  | none h => exact (dNear_nil w x s).mono fun _ _ hh => newL_of hh

theorem GX.dreach {B : Nat} {w : World} {gp xp : Option Addr} {N : List Int} {E : Eg} (h : GX B w gp xp N E) (hE : E.length ≤ 100000) (x : Int) (s : Bool) :
    Calls Try.prog 13 #[.pointer xp, .int .u64 x, .bool s] w (NewL w (reachD N E x s)) := by
  cases h with
  | two h => exact h.dreach hE x s
  | none h => exact (dReach_nil w x s).mono fun _ _ hh => newL_of hh

theorem GX.dhas {B : Nat} {w : World} {gp xp : Option Addr} {N : List Int} {E : Eg} (h : GX B w gp xp N E) (x : Int) :
    Calls Try.prog 26 #[.pointer xp, .int .u64 x] w fun e w' => e = .returned (.bool (decide (x ∈ N))) ∧ w' = w := by
  cases h with
  | two h => exact h.dhas x
  | none h => exact (dHas_nil w x).mono fun _ _ hh => ⟨by rw [hh.1]; simp, hh.2.symm⟩

/-- is a list the same as one that was told before? -/
theorem sameL {w w1 w2 : World} {l : List Int} {v u : Value} (h : w1.ownsRow w.heap.size 31 1 v l.length (l.map (Value.int .u64))) (hb : Below w1.heap.size w1 w2) (g : w2.ownsRow w1.heap.size 31 1 u l.length (l.map (Value.int .u64))) :
    Calls Try.prog 19 #[v, u] w2 fun e w' => e = .returned (.bool true) ∧ Drawn w2 w' := by
  have := sameNums l l v u w2 (Nums.of_own (own_below h hb)) (Nums.of_own g)
  rwa [decide_eq_true rfl] at this

end Go.Proofs.Ytdbeekdnehojnaa
