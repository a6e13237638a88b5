/-
  graph's laws: one call on both.
-/
import Derived.Test.YtdbeekdnehojnaaJ33
namespace Go.Proofs.Ytdbeekdnehojnaa
open Go.RowKit Go.ChangeMaps


theorem Turn.first {w W0 w' : World} {B : Nat} (hb : Below w.heap.size w W0) (hm : Mod (Turn W0 B) W0 w') (hB : B ≤ w.heap.size) : Mod (Turn w B) w w' := by
  refine (Mod.of_below hb (F := Turn w B)).trans hm fun k hk ht => ⟨ht.1, ?_⟩
  have e := hb.block k hk
  rcases ht.2 with ⟨es, c, h⟩ | ⟨cs, fr, h⟩ | ⟨cs, fr, h⟩
  · exact .inl ⟨es, c, by rw [← e]; exact h⟩
  · exact .inr (.inl ⟨cs, fr, by rw [← e]; exact h⟩)
  · exact .inr (.inr ⟨cs, fr, by rw [← e]; exact h⟩)

set_option maxRecDepth 100000 in
set_option maxHeartbeats 8000000 in
theorem lawDo (w : World) (B p m c : Nat) (Q : Gr) (N : List Int) (E : Eg) (a x y : Int) (h : GS B p m c Q N E w) (hN : N.length ≤ 100000) (hE : E.length ≤ 100000) (ha : 0 ≤ a ∧ a ≤ 255) :
    Calls Try.prog 11 #[.pointer (some ⟨p, 0, none⟩), .pointer (some ⟨c, 0, none⟩), .agg #[.int .u8 a, .int .u64 x, .int .u64 y]] w fun e w' =>
      e = .returned (.bool true) ∧ ∃ Q', GS B p m c Q' (doN N a x) (doE N E a x y) w' ∧ Mod (Turn w B) w w' := by
  have hB := h.big
  have ha0 := ha.1
  obtain ⟨r, hr⟩ : ∃ r, r = a % 6 := ⟨_, rfl⟩
  have hr6 : r = 0 ∨ r = 1 ∨ r = 2 ∨ r = 3 ∨ r = 4 ∨ r = 5 := by omega
  unfold doN doE
  rw [← hr]
  rcases hr6 with rfl | rfl | rfl | rfl | rfl | rfl
  all_goals simp only [Int.reduceEq, or_false, false_or, or_true, true_or, or_self, if_true, if_false]
  · have hr' : a % 6 = 0 := hr.symm
    clear hr ha
    obtain ⟨N', hN'⟩ : ∃ N', N' = if x ∈ N then N else putZ N x := ⟨_, rfl⟩
    obtain ⟨z, hz⟩ : ∃ z : Int, z = if x ∈ N then 7 else 0 := ⟨_, rfl⟩
    rw [← hN']
    have HN' := Lib.hid hN'
    have HZ := Lib.hid hz
    clear hN' hz
    go_enter Try.func11, Try.ntmps11
    go_wp2_with fail
    obtain ⟨W0, hW0⟩ : ∃ W0, W0 = (w.alloc (.cells #[.int .u8 a, .int .u64 x, .int .u64 y] 33)).drew := ⟨_, rfl⟩
    have hb0 : Below w.heap.size w W0 := by rw [hW0]; exact ((Below.refl _ w).alloc (Nat.le_refl _) _).drew
    have bx : W0.heap[w.heap.size]? = some (.cells #[.int .u8 a, .int .u64 x, .int .u64 y] 33 (0, 0)) := by rw [hW0]; exact heap_alloc_new _ _
    have C1 := Lib.hid (by have := (h.below hb0).add (by omega) x; rw [← HN'.out, ← HZ.out] at this; exact this)
    have HB0 := Lib.hid hb0
    have HW := Lib.hid hW0
    have d1 := cells_get bx 1
    have d2 := cells_get bx 2
    clear hW0 hb0
    refine region_go (fun w' => w'.cell? ⟨w.heap.size, 1, none⟩ = some (.int .u64 x) ∧ w'.cell? ⟨w.heap.size, 2, none⟩ = some (.int .u64 y)) (by kernel_rfl) ?hS0 (fun hH => ?_)
    case hS0 =>
      rw [← HW.out]; exact ⟨d1, d2⟩
    rw [← HW.out] at hH ⊢
    refine kY 0 hH ?_
    repeat simp only [Act.put, uA1, uB1, uC1]
    refine kY 1 hH ?_
    repeat simp only [Act.put, uA1, uB1, uC1]
    refine kY 2 hH ?_
    repeat simp only [Act.put, uA1, uB1, uC1]
    refine kY 4 hH ?_
    repeat simp only [Act.put, uA1, uB1, uC1]
    refine kY 5 hH ?_
    repeat simp only [Act.put, uA1, uB1, uC1]
    refine kY 6 hH ?_
    repeat simp only [Act.put, uA1, uB1, uC1]
    refine spk 3 rfl (by decide +kernel) (by rfl) (fun K' hK => ?_)
    go_simp
    go_at_call 18
    with_reducible refine C1.out.mono ?_
    rintro e w1 ⟨rfl, hm1, hc1⟩
    have bx1 := hm1.box bx (by decide) (by decide)
    have C2 := Lib.hid hc1
    clear hm1 hc1
    try dsimp only
    refine hK.out _ _ ?hS (fun hH' => ?_)
    case hS =>
      exact ⟨cells_get bx1 1, cells_get bx1 2⟩
    clear hK K' hH; have hH := hH'; clear hH'; repeat simp only [Act.put, uA1, uB1, uC1]
    refine spk 7 rfl (by decide +kernel) (by rfl) (fun K' hK => ?_)
    go_simp
    go_at_call 23
    with_reducible refine C2.out.mono ?_
    rintro e w2 ⟨rfl, ⟨Q', hG2⟩, hm2⟩
    have bx2 := hm2.box bx (by decide) (by decide)
    have R := Lib.hid (And.intro hG2 hm2)
    clear hG2 hm2
    try dsimp only
    refine hK.out _ _ ?hS (fun hH' => ?_)
    case hS =>
      exact ⟨cells_get bx2 1, cells_get bx2 2⟩
    clear hK K' hH; have hH := hH'; clear hH'; repeat simp only [Act.put, uA1, uB1, uC1]
    refine kY 8 hH ?_
    repeat simp only [Act.put, uA1, uB1, uC1]
    refine kY 9 hH ?_
    repeat simp only [Act.put, uA1, uB1, uC1]
    refine wpAnyH_done (by decide +kernel) ?_ _
    go_wp2_with fail
    go_ret
    exact ⟨ret_bool (by simp), Q', R.out.1, Turn.first HB0.out R.out.2 hB⟩
  · have hr' : a % 6 = 1 := hr.symm
    clear hr ha
    obtain ⟨N', hN'⟩ : ∃ N', N' = if x ∈ N then N else putZ N x := ⟨_, rfl⟩
    obtain ⟨z, hz⟩ : ∃ z : Int, z = if x ∈ N then 7 else 0 := ⟨_, rfl⟩
    rw [← hN']
    have HN' := Lib.hid hN'
    have HZ := Lib.hid hz
    clear hN' hz
    go_enter Try.func11, Try.ntmps11
    go_wp2_with fail
    obtain ⟨W0, hW0⟩ : ∃ W0, W0 = (w.alloc (.cells #[.int .u8 a, .int .u64 x, .int .u64 y] 33)).drew := ⟨_, rfl⟩
    have hb0 : Below w.heap.size w W0 := by rw [hW0]; exact ((Below.refl _ w).alloc (Nat.le_refl _) _).drew
    have bx : W0.heap[w.heap.size]? = some (.cells #[.int .u8 a, .int .u64 x, .int .u64 y] 33 (0, 0)) := by rw [hW0]; exact heap_alloc_new _ _
    have C1 := Lib.hid (by have := (h.below hb0).add (by omega) x; rw [← HN'.out, ← HZ.out] at this; exact this)
    have HB0 := Lib.hid hb0
    have HW := Lib.hid hW0
    have d1 := cells_get bx 1
    have d2 := cells_get bx 2
    clear hW0 hb0
    refine region_go (fun w' => w'.cell? ⟨w.heap.size, 1, none⟩ = some (.int .u64 x) ∧ w'.cell? ⟨w.heap.size, 2, none⟩ = some (.int .u64 y)) (by kernel_rfl) ?hS0 (fun hH => ?_)
    case hS0 =>
      rw [← HW.out]; exact ⟨d1, d2⟩
    rw [← HW.out] at hH ⊢
    refine kY 0 hH ?_
    repeat simp only [Act.put, uA1, uB1, uC1]
    refine kY 1 hH ?_
    repeat simp only [Act.put, uA1, uB1, uC1]
    refine kY 2 hH ?_
    repeat simp only [Act.put, uA1, uB1, uC1]
    refine kY 4 hH ?_
    repeat simp only [Act.put, uA1, uB1, uC1]
    refine kY 5 hH ?_
    repeat simp only [Act.put, uA1, uB1, uC1]
    refine kY 6 hH ?_
    repeat simp only [Act.put, uA1, uB1, uC1]
    refine spk 3 rfl (by decide +kernel) (by rfl) (fun K' hK => ?_)
    go_simp
    go_at_call 18
    with_reducible refine C1.out.mono ?_
    rintro e w1 ⟨rfl, hm1, hc1⟩
    have bx1 := hm1.box bx (by decide) (by decide)
    have C2 := Lib.hid hc1
    clear hm1 hc1
    try dsimp only
    refine hK.out _ _ ?hS (fun hH' => ?_)
    case hS =>
      exact ⟨cells_get bx1 1, cells_get bx1 2⟩
    clear hK K' hH; have hH := hH'; clear hH'; repeat simp only [Act.put, uA1, uB1, uC1]
    refine spk 7 rfl (by decide +kernel) (by rfl) (fun K' hK => ?_)
    go_simp
    go_at_call 23
    with_reducible refine C2.out.mono ?_
    rintro e w2 ⟨rfl, ⟨Q', hG2⟩, hm2⟩
    have bx2 := hm2.box bx (by decide) (by decide)
    have R := Lib.hid (And.intro hG2 hm2)
    clear hG2 hm2
    try dsimp only
    refine hK.out _ _ ?hS (fun hH' => ?_)
    case hS =>
      exact ⟨cells_get bx2 1, cells_get bx2 2⟩
    clear hK K' hH; have hH := hH'; clear hH'; repeat simp only [Act.put, uA1, uB1, uC1]
    refine kY 8 hH ?_
    repeat simp only [Act.put, uA1, uB1, uC1]
    refine kY 9 hH ?_
    repeat simp only [Act.put, uA1, uB1, uC1]
    refine wpAnyH_done (by decide +kernel) ?_ _
    go_wp2_with fail
    go_ret
    exact ⟨ret_bool (by simp), Q', R.out.1, Turn.first HB0.out R.out.2 hB⟩
  · have hr' : a % 6 = 2 := hr.symm
    clear hr ha
    go_enter Try.func11, Try.ntmps11
    go_wp2_with fail
    obtain ⟨W0, hW0⟩ : ∃ W0, W0 = (w.alloc (.cells #[.int .u8 a, .int .u64 x, .int .u64 y] 33)).drew := ⟨_, rfl⟩
    have hb0 : Below w.heap.size w W0 := by rw [hW0]; exact ((Below.refl _ w).alloc (Nat.le_refl _) _).drew
    have bx : W0.heap[w.heap.size]? = some (.cells #[.int .u8 a, .int .u64 x, .int .u64 y] 33 (0, 0)) := by rw [hW0]; exact heap_alloc_new _ _
    have C1 := Lib.hid ((h.below hb0).bind (by omega) x y)
    have HB0 := Lib.hid hb0
    have HW := Lib.hid hW0
    have d1 := cells_get bx 1
    have d2 := cells_get bx 2
    clear hW0 hb0
    refine region_go (fun w' => w'.cell? ⟨w.heap.size, 1, none⟩ = some (.int .u64 x) ∧ w'.cell? ⟨w.heap.size, 2, none⟩ = some (.int .u64 y)) (by kernel_rfl) ?hS0 (fun hH => ?_)
    case hS0 =>
      rw [← HW.out]; exact ⟨d1, d2⟩
    rw [← HW.out] at hH ⊢
    refine kY 0 hH ?_
    repeat simp only [Act.put, uA1, uB1, uC1]
    refine kY 1 hH ?_
    repeat simp only [Act.put, uA1, uB1, uC1]
    refine kY 2 hH ?_
    repeat simp only [Act.put, uA1, uB1, uC1]
    refine kY 3 hH ?_
    repeat simp only [Act.put, uA1, uB1, uC1]
    refine kY 4 hH ?_
    repeat simp only [Act.put, uA1, uB1, uC1]
    refine kY 6 hH ?_
    repeat simp only [Act.put, uA1, uB1, uC1]
    refine kY 7 hH ?_
    repeat simp only [Act.put, uA1, uB1, uC1]
    refine kY 8 hH ?_
    repeat simp only [Act.put, uA1, uB1, uC1]
    refine kY 9 hH ?_
    repeat simp only [Act.put, uA1, uB1, uC1]
    refine kY 10 hH ?_
    repeat simp only [Act.put, uA1, uB1, uC1]
    refine spk 5 rfl (by decide +kernel) (by rfl) (fun K' hK => ?_)
    go_simp
    go_at_call 16
    with_reducible refine C1.out.mono ?_
    rintro e w1 ⟨rfl, hm1, hc1⟩
    have bx1 := hm1.box bx (by decide) (by decide)
    have C2 := Lib.hid hc1
    clear hm1 hc1
    try dsimp only
    refine hK.out _ _ ?hS (fun hH' => ?_)
    case hS =>
      exact ⟨cells_get bx1 1, cells_get bx1 2⟩
    clear hK K' hH; have hH := hH'; clear hH'; repeat simp only [Act.put, uA1, uB1, uC1]
    refine spk 11 rfl (by decide +kernel) (by rfl) (fun K' hK => ?_)
    go_simp
    go_at_call 28
    with_reducible refine C2.out.mono ?_
    rintro e w2 ⟨rfl, ⟨Q', hG2, -⟩, hm2⟩
    have bx2 := hm2.box bx (by decide) (by decide)
    have R := Lib.hid (And.intro hG2 hm2)
    clear hG2 hm2
    try dsimp only
    refine hK.out _ _ ?hS (fun hH' => ?_)
    case hS =>
      exact ⟨cells_get bx2 1, cells_get bx2 2⟩
    clear hK K' hH; have hH := hH'; clear hH'; repeat simp only [Act.put, uA1, uB1, uC1]
    refine kY 12 hH ?_
    repeat simp only [Act.put, uA1, uB1, uC1]
    refine kY 13 hH ?_
    repeat simp only [Act.put, uA1, uB1, uC1]
    refine wpAnyH_done (by decide +kernel) ?_ _
    go_wp2_with fail
    go_ret
    exact ⟨ret_bool (by simp), Q', R.out.1, Turn.first HB0.out R.out.2 hB⟩
  · have hr' : a % 6 = 3 := hr.symm
    clear hr ha
    go_enter Try.func11, Try.ntmps11
    go_wp2_with fail
    obtain ⟨W0, hW0⟩ : ∃ W0, W0 = (w.alloc (.cells #[.int .u8 a, .int .u64 x, .int .u64 y] 33)).drew := ⟨_, rfl⟩
    have hb0 : Below w.heap.size w W0 := by rw [hW0]; exact ((Below.refl _ w).alloc (Nat.le_refl _) _).drew
    have bx : W0.heap[w.heap.size]? = some (.cells #[.int .u8 a, .int .u64 x, .int .u64 y] 33 (0, 0)) := by rw [hW0]; exact heap_alloc_new _ _
    have C1 := Lib.hid ((h.below hb0).link (by omega) x y)
    have HB0 := Lib.hid hb0
    have HW := Lib.hid hW0
    have d1 := cells_get bx 1
    have d2 := cells_get bx 2
    clear hW0 hb0
    refine region_go (fun w' => w'.cell? ⟨w.heap.size, 1, none⟩ = some (.int .u64 x) ∧ w'.cell? ⟨w.heap.size, 2, none⟩ = some (.int .u64 y)) (by kernel_rfl) ?hS0 (fun hH => ?_)
    case hS0 =>
      rw [← HW.out]; exact ⟨d1, d2⟩
    rw [← HW.out] at hH ⊢
    refine kY 0 hH ?_
    repeat simp only [Act.put, uA1, uB1, uC1]
    refine kY 1 hH ?_
    repeat simp only [Act.put, uA1, uB1, uC1]
    refine kY 2 hH ?_
    repeat simp only [Act.put, uA1, uB1, uC1]
    refine kY 3 hH ?_
    repeat simp only [Act.put, uA1, uB1, uC1]
    refine kY 4 hH ?_
    repeat simp only [Act.put, uA1, uB1, uC1]
    refine kY 6 hH ?_
    repeat simp only [Act.put, uA1, uB1, uC1]
    refine kY 7 hH ?_
    repeat simp only [Act.put, uA1, uB1, uC1]
    refine kY 8 hH ?_
    repeat simp only [Act.put, uA1, uB1, uC1]
    refine kY 9 hH ?_
    repeat simp only [Act.put, uA1, uB1, uC1]
    refine kY 10 hH ?_
    repeat simp only [Act.put, uA1, uB1, uC1]
    refine spk 5 rfl (by decide +kernel) (by rfl) (fun K' hK => ?_)
    go_simp
    go_at_call 27
    with_reducible refine C1.out.mono ?_
    rintro e w1 ⟨rfl, hm1, hc1⟩
    have bx1 := hm1.box bx (by decide) (by decide)
    have C2 := Lib.hid hc1
    clear hm1 hc1
    try dsimp only
    refine hK.out _ _ ?hS (fun hH' => ?_)
    case hS =>
      exact ⟨cells_get bx1 1, cells_get bx1 2⟩
    clear hK K' hH; have hH := hH'; clear hH'; repeat simp only [Act.put, uA1, uB1, uC1]
    refine spk 11 rfl (by decide +kernel) (by rfl) (fun K' hK => ?_)
    go_simp
    go_at_call 29
    with_reducible refine C2.out.mono ?_
    rintro e w2 ⟨rfl, ⟨Q', hG2, -⟩, hm2⟩
    have bx2 := hm2.box bx (by decide) (by decide)
    have R := Lib.hid (And.intro hG2 hm2)
    clear hG2 hm2
    try dsimp only
    refine hK.out _ _ ?hS (fun hH' => ?_)
    case hS =>
      exact ⟨cells_get bx2 1, cells_get bx2 2⟩
    clear hK K' hH; have hH := hH'; clear hH'; repeat simp only [Act.put, uA1, uB1, uC1]
    refine kY 12 hH ?_
    repeat simp only [Act.put, uA1, uB1, uC1]
    refine kY 13 hH ?_
    repeat simp only [Act.put, uA1, uB1, uC1]
    refine wpAnyH_done (by decide +kernel) ?_ _
    go_wp2_with fail
    go_ret
    exact ⟨ret_bool (by simp), Q', R.out.1, Turn.first HB0.out R.out.2 hB⟩
  · have hr' : a % 6 = 4 := hr.symm
    clear hr ha
    go_enter Try.func11, Try.ntmps11
    go_wp2_with fail
    obtain ⟨W0, hW0⟩ : ∃ W0, W0 = (w.alloc (.cells #[.int .u8 a, .int .u64 x, .int .u64 y] 33)).drew := ⟨_, rfl⟩
    have hb0 : Below w.heap.size w W0 := by rw [hW0]; exact ((Below.refl _ w).alloc (Nat.le_refl _) _).drew
    have bx : W0.heap[w.heap.size]? = some (.cells #[.int .u8 a, .int .u64 x, .int .u64 y] 33 (0, 0)) := by rw [hW0]; exact heap_alloc_new _ _
    have C1 := Lib.hid ((h.below hb0).link (by omega) x y)
    have HB0 := Lib.hid hb0
    have HW := Lib.hid hW0
    have d1 := cells_get bx 1
    have d2 := cells_get bx 2
    clear hW0 hb0
    refine region_go (fun w' => w'.cell? ⟨w.heap.size, 1, none⟩ = some (.int .u64 x) ∧ w'.cell? ⟨w.heap.size, 2, none⟩ = some (.int .u64 y)) (by kernel_rfl) ?hS0 (fun hH => ?_)
    case hS0 =>
      rw [← HW.out]; exact ⟨d1, d2⟩
    rw [← HW.out] at hH ⊢
    refine kY 0 hH ?_
    repeat simp only [Act.put, uA1, uB1, uC1]
    refine kY 1 hH ?_
    repeat simp only [Act.put, uA1, uB1, uC1]
    refine kY 2 hH ?_
    repeat simp only [Act.put, uA1, uB1, uC1]
    refine kY 3 hH ?_
    repeat simp only [Act.put, uA1, uB1, uC1]
    refine kY 4 hH ?_
    repeat simp only [Act.put, uA1, uB1, uC1]
    refine kY 6 hH ?_
    repeat simp only [Act.put, uA1, uB1, uC1]
    refine kY 7 hH ?_
    repeat simp only [Act.put, uA1, uB1, uC1]
    refine kY 8 hH ?_
    repeat simp only [Act.put, uA1, uB1, uC1]
    refine kY 9 hH ?_
    repeat simp only [Act.put, uA1, uB1, uC1]
    refine kY 10 hH ?_
    repeat simp only [Act.put, uA1, uB1, uC1]
    refine spk 5 rfl (by decide +kernel) (by rfl) (fun K' hK => ?_)
    go_simp
    go_at_call 27
    with_reducible refine C1.out.mono ?_
    rintro e w1 ⟨rfl, hm1, hc1⟩
    have bx1 := hm1.box bx (by decide) (by decide)
    have C2 := Lib.hid hc1
    clear hm1 hc1
    try dsimp only
    refine hK.out _ _ ?hS (fun hH' => ?_)
    case hS =>
      exact ⟨cells_get bx1 1, cells_get bx1 2⟩
    clear hK K' hH; have hH := hH'; clear hH'; repeat simp only [Act.put, uA1, uB1, uC1]
    refine spk 11 rfl (by decide +kernel) (by rfl) (fun K' hK => ?_)
    go_simp
    go_at_call 29
    with_reducible refine C2.out.mono ?_
    rintro e w2 ⟨rfl, ⟨Q', hG2, -⟩, hm2⟩
    have bx2 := hm2.box bx (by decide) (by decide)
    have R := Lib.hid (And.intro hG2 hm2)
    clear hG2 hm2
    try dsimp only
    refine hK.out _ _ ?hS (fun hH' => ?_)
    case hS =>
      exact ⟨cells_get bx2 1, cells_get bx2 2⟩
    clear hK K' hH; have hH := hH'; clear hH'; repeat simp only [Act.put, uA1, uB1, uC1]
    refine kY 12 hH ?_
    repeat simp only [Act.put, uA1, uB1, uC1]
    refine kY 13 hH ?_
    repeat simp only [Act.put, uA1, uB1, uC1]
    refine wpAnyH_done (by decide +kernel) ?_ _
    go_wp2_with fail
    go_ret
    exact ⟨ret_bool (by simp), Q', R.out.1, Turn.first HB0.out R.out.2 hB⟩
  · have hr' : a % 6 = 5 := hr.symm
    clear hr ha
    go_enter Try.func11, Try.ntmps11
    go_wp2_with fail
    obtain ⟨W0, hW0⟩ : ∃ W0, W0 = (w.alloc (.cells #[.int .u8 a, .int .u64 x, .int .u64 y] 33)).drew := ⟨_, rfl⟩
    have hb0 : Below w.heap.size w W0 := by rw [hW0]; exact ((Below.refl _ w).alloc (Nat.le_refl _) _).drew
    have bx : W0.heap[w.heap.size]? = some (.cells #[.int .u8 a, .int .u64 x, .int .u64 y] 33 (0, 0)) := by rw [hW0]; exact heap_alloc_new _ _
    have C1 := Lib.hid ((h.below hb0).cut (by omega) x y)
    have HB0 := Lib.hid hb0
    have HW := Lib.hid hW0
    have d1 := cells_get bx 1
    have d2 := cells_get bx 2
    clear hW0 hb0
    refine region_go (fun w' => w'.cell? ⟨w.heap.size, 1, none⟩ = some (.int .u64 x) ∧ w'.cell? ⟨w.heap.size, 2, none⟩ = some (.int .u64 y)) (by kernel_rfl) ?hS0 (fun hH => ?_)
    case hS0 =>
      rw [← HW.out]; exact ⟨d1, d2⟩
    rw [← HW.out] at hH ⊢
    refine kY 0 hH ?_
    repeat simp only [Act.put, uA1, uB1, uC1]
    refine kY 1 hH ?_
    repeat simp only [Act.put, uA1, uB1, uC1]
    refine kY 2 hH ?_
    repeat simp only [Act.put, uA1, uB1, uC1]
    refine kY 3 hH ?_
    repeat simp only [Act.put, uA1, uB1, uC1]
    refine kY 4 hH ?_
    repeat simp only [Act.put, uA1, uB1, uC1]
    refine kY 6 hH ?_
    repeat simp only [Act.put, uA1, uB1, uC1]
    refine kY 7 hH ?_
    repeat simp only [Act.put, uA1, uB1, uC1]
    refine kY 8 hH ?_
    repeat simp only [Act.put, uA1, uB1, uC1]
    refine kY 9 hH ?_
    repeat simp only [Act.put, uA1, uB1, uC1]
    refine kY 10 hH ?_
    repeat simp only [Act.put, uA1, uB1, uC1]
    refine spk 5 rfl (by decide +kernel) (by rfl) (fun K' hK => ?_)
    go_simp
    go_at_call 12
    with_reducible refine C1.out.mono ?_
    rintro e w1 ⟨rfl, hm1, hc1⟩
    have bx1 := hm1.box bx (by decide) (by decide)
    have C2 := Lib.hid hc1
    clear hm1 hc1
    try dsimp only
    refine hK.out _ _ ?hS (fun hH' => ?_)
    case hS =>
      exact ⟨cells_get bx1 1, cells_get bx1 2⟩
    clear hK K' hH; have hH := hH'; clear hH'; repeat simp only [Act.put, uA1, uB1, uC1]
    refine spk 11 rfl (by decide +kernel) (by rfl) (fun K' hK => ?_)
    go_simp
    go_at_call 30
    with_reducible refine C2.out.mono ?_
    rintro e w2 ⟨rfl, ⟨Q', hG2, -⟩, hm2⟩
    have bx2 := hm2.box bx (by decide) (by decide)
    have R := Lib.hid (And.intro hG2 hm2)
    clear hG2 hm2
    try dsimp only
    refine hK.out _ _ ?hS (fun hH' => ?_)
    case hS =>
      exact ⟨cells_get bx2 1, cells_get bx2 2⟩
    clear hK K' hH; have hH := hH'; clear hH'; repeat simp only [Act.put, uA1, uB1, uC1]
    refine kY 12 hH ?_
    repeat simp only [Act.put, uA1, uB1, uC1]
    refine kY 13 hH ?_
    repeat simp only [Act.put, uA1, uB1, uC1]
    refine wpAnyH_done (by decide +kernel) ?_ _
    go_wp2_with fail
    go_ret
    exact ⟨ret_bool (by simp), Q', R.out.1, Turn.first HB0.out R.out.2 hB⟩

end Go.Proofs.Ytdbeekdnehojnaa
