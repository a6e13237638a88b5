/-
  chain's law: the document's example.
-/
import Derived.Test.YtpoophimfjfgkaaChainF
namespace Go.Proofs.Ytpoophimfjfgkaa
open Go.RowKit

def exZ : List (Int × List Int) := [(5, [1]), (7, []), (9, [2])]

theorem exZ_puts : putsZ [] exZ = (0, exZ) := by decide +kernel
theorem exZ_rising : Rising exZ := by unfold Rising exZ; decide
theorem exZ_at6 : atZ 6 exZ = [1] := by decide +kernel
theorem exZ_at7 : atZ 7 exZ = [] := by decide +kernel
theorem exZ_gone : goneN 8 exZ = 2 := by decide +kernel

theorem exZ_recs (w : World) : Recs (((w.alloc (.cells #[.int .i32 1] 21)).alloc (.cells #[.int .i32 2] 21)).alloc (.cells #[.int .u64 5, .slice (some ⟨w.heap.size, 0, none⟩) 1 1, .int .u64 7, .slice none 0 0, .int .u64 9, .slice (some ⟨w.heap.size + 1, 0, none⟩) 1 1] 41)) (.slice (some ⟨w.heap.size + 1 + 1, 0, none⟩) 3 3) exZ := by
  refine ⟨_, 3, rfl, by decide, by decide, by simp, fun i hi => ⟨w.heap.size + 1 + 1, 0, ?_⟩⟩
  have nil : ∀ W : World, Nums W .i32 (.slice none 0 0) [] := fun W => Nums.mk (xs := []) (by simp) (by simp) (by simp) (by simp)
  match i, hi with
  | 0, _ => exact ⟨_, rfl, by go_simp <;> rfl, by go_simp <;> rfl, Nums.mk (xs := [1]) (by simp) (by simp) (by simp) fun i hi => ⟨w.heap.size, 0, rfl, by
      obtain rfl : i = 0 := by simp at hi; omega
      go_simp⟩⟩
  | 1, _ => exact ⟨_, rfl, by go_simp <;> rfl, by go_simp <;> rfl, nil _⟩
  | 2, _ => exact ⟨_, rfl, by go_simp <;> rfl, by go_simp <;> rfl, Nums.mk (xs := [2]) (by simp) (by simp) (by simp) fun i hi => ⟨w.heap.size + 1, 0, rfl, by
      obtain rfl : i = 0 := by simp at hi; omega
      go_simp⟩⟩

theorem awake_true (w : World) : Calls Try.prog 8 #[] w fun e w' => e = .returned (.bool true) ∧ Below w.heap.size w w' := by
  go_enter Try.func8, Try.ntmps8
  go_wp2_with fail
  have b0 : Below w.heap.size w (((w.alloc (.cells #[.int .i32 1] 21)).alloc (.cells #[.int .i32 2] 21)).alloc (.cells #[.int .u64 5, .slice (some ⟨w.heap.size, 0, none⟩) 1 1, .int .u64 7, .slice none 0 0, .int .u64 9, .slice (some ⟨w.heap.size + 1, 0, none⟩) 1 1] 41)) :=
    (((Below.refl _ _).alloc (Nat.le_refl _) _).alloc (by simp) _).alloc (by simp; omega) _
  refine (new exZ (by decide) (by decide) _ _ (exZ_recs w)).mono ?_
  generalize (((w.alloc (.cells #[.int .i32 1] 21)).alloc (.cells #[.int .i32 2] 21)).alloc (.cells #[.int .u64 5, .slice (some ⟨w.heap.size, 0, none⟩) 1 1, .int .u64 7, .slice none 0 0, .int .u64 9, .slice (some ⟨w.heap.size + 1, 0, none⟩) 1 1] 41)) = W at *
  intro e w1 hm
  rw [exZ_puts] at hm
  rcases hm with ⟨-, c, rfl, hc, hb1⟩ | ⟨h, -⟩
  case inr => exact absurd rfl h
  have B1 := Lib.hid (b0.trans (hb1.mono b0.size))
  have Z0 := Lib.hid (And.intro b0.size hb1.size)
  have C1 := Lib.hid hc
  clear hc hb1 b0
  go_wp2_with fail
  obtain ⟨v, rs, hc, -⟩ := C1.out
  refine (atOf exZ exZ_rising (by decide) (by decide) 6 c v w1 hc.is).mono ?_
  clear hc
  rw [exZ_at6]
  rintro e w2 ⟨u, rfl, hu, hb2⟩
  obtain ⟨uq, um, uk, rfl⟩ := own_form hu
  have U := Lib.hid hu
  have C2 := Lib.hid (C1.out.below hb2)
  have B2 := Lib.hid (B1.out.trans (hb2.mono B1.out.size))
  have h2 := hb2.size
  clear hu hb2
  go_wp2_with fail
  obtain ⟨v, rs, hc, -⟩ := C2.out
  refine (atOf exZ exZ_rising (by decide) (by decide) 7 c v w2 hc.is).mono ?_
  clear hc
  rw [exZ_at7]
  rintro e w3 ⟨u', rfl, -, hb3⟩
  have C3 := Lib.hid (C2.out.below hb3)
  have U3 := Lib.hid (own_below U.out hb3)
  have B3 := Lib.hid (B2.out.trans (hb3.mono B2.out.size))
  have Z2 := Lib.hid (And.intro h2 hb3.size)
  clear hb3
  go_wp2_with fail
  refine (sweep _ c _ exZ exZ_rising (by decide) 8 w3 C3.out (by have := B1.out.size; have := Z0.out; have := Z2.out; omega)).mono ?_
  unfold Swept
  rw [exZ_gone]
  rintro e w4 ⟨g, rfl, hg, -, hm⟩
  have hu4 : Nums w4 .i32 (.slice uq um uk) [1] := by
    refine Nums.of_own (ownsRow_agree (F := fun k => w1.heap.size ≤ k ∧ k < w3.heap.size) U3.out (fun b hb => ⟨(U.out.lt b hb).1, (U3.out.lt b hb).2⟩) (Agree.of_mod hm (fun k hk => hk.2) fun k hk hp => ?_))
    rcases hp with hp | ⟨_, hp⟩
    · exact hp.elim
    · have := hk.1; omega
  have hg4 := Nums.of_own (xs := [5, 7]) hg
  have B4 := Lib.hid (B3.out.trans ((hm.below (B := w.heap.size) (by have := B3.out.size; omega) fun k hk => by
    rcases hk with hk | ⟨hk, _⟩
    · exact hk.elim
    · have := Z0.out; omega)))
  clear hm hg
  obtain ⟨p, cap, rfl, -, -, -, -⟩ := hg4.slice
  obtain ⟨b, off, rfl, g0⟩ := hu4.elem (j := 0) (by decide)
  obtain ⟨b', off', rfl, g1⟩ := hg4.elem (j := 1) (by decide)
  obtain rfl : um = 1 := by
    obtain ⟨_, _, h, _⟩ := hu4.slice
    exact (Value.slice.inj h).2.1
  clear hu4 hg4
  simp only [List.getElem_cons_zero, List.getElem_cons_succ, List.length_cons, List.length_nil, Nat.zero_add, Nat.reduceAdd, Nat.add_zero] at g0 g1 ⊢
  go_wp2_with fail
  go_ret
  exact ⟨rfl, B4.out⟩

end Go.Proofs.Ytpoophimfjfgkaa
