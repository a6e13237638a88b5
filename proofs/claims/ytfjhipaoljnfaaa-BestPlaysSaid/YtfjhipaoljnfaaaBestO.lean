/-
  best's law: the document's example.
-/
import Derived.Test.YtfjhipaoljnfaaaBestN
namespace Go.Proofs.Ytfjhipaoljnfaaa
open Go.RowKit

def exZ : List Hz := [⟨1, 5, []⟩, ⟨2, 3, []⟩, ⟨3, 4, []⟩]

theorem exZ_adds : addsZ 2 [] exZ = (3, [⟨2, 3, []⟩, ⟨3, 4, []⟩]) := by rfl

theorem nums_nil (w : World) : Nums w .i32 (.slice none 0 0) [] := Nums.mk (xs := []) (by simp) (by simp) (by simp) (by simp)

theorem exZ_hits (w : World) : HitsF (w.alloc (.cells #[.int .u64 1, .int .u64 5, .slice none 0 0, .int .u64 2, .int .u64 3, .slice none 0 0, .int .u64 3, .int .u64 4, .slice none 0 0] 35)) (fun k => k = w.heap.size) (.slice (some ⟨w.heap.size, 0, none⟩) 3 3) exZ := by
  refine ⟨_, 3, rfl, by decide, by decide, by simp, fun i hi => ⟨w.heap.size, 0, .slice none 0 0, rfl, rfl, ?_⟩⟩
  match i, hi with
  | 0, _ => exact ⟨by go_simp <;> rfl, by go_simp <;> rfl, by go_simp <;> rfl, nums_nil _, fun h => absurd h (by simp [exZ])⟩
  | 1, _ => exact ⟨by go_simp <;> rfl, by go_simp <;> rfl, by go_simp <;> rfl, nums_nil _, fun h => absurd h (by simp [exZ])⟩
  | 2, _ => exact ⟨by go_simp <;> rfl, by go_simp <;> rfl, by go_simp <;> rfl, nums_nil _, fun h => absurd h (by simp [exZ])⟩

theorem awake_true (w : World) : Calls Try.prog 9 #[] w fun e w' => e = .returned (.bool true) ∧ Below w.heap.size w w' := by
  have NW := Lib.hid (new_yes 2 w (by omega) (by omega))
  go_enter Try.func9, Try.ntmps9
  go_wp2_with fail
  refine NW.out.mono ?_
  rintro e w1 ⟨c, rfl, hL, hb1⟩
  have L1 := Lib.hid (And.intro hL hb1)
  have hb2 := (Below.refl w1.heap.size w1).alloc (Nat.le_refl _) (.cells #[.int .u64 1, .int .u64 5, .slice none 0 0, .int .u64 2, .int .u64 3, .slice none 0 0, .int .u64 3, .int .u64 4, .slice none 0 0] 35)
  have AD := Lib.hid (adds w.heap.size c (Plus (fun _ => False) w w1) (fun k => k = w1.heap.size) 2 [] exZ _ _ (by omega) (by omega) (hL.below hb2) (fun k hk => by
      have := hb2.size
      rcases hk with hk | ⟨-, hk⟩
      · exact hk.elim
      · omega) (Nat.le_trans hb1.size hb2.size) (GoodL.nil 2) (exZ_hits w1) (fun k hk => ⟨by subst hk; simp, fun hp => by
      rcases hp with hp | ⟨-, hp⟩
      · exact hp
      · omega⟩) (by decide) (by decide))
  rw [exZ_adds] at AD
  have B2 := Lib.hid (hb1.trans (hb2.mono hb1.size))
  clear hL hb1 hb2
  go_wp2_with fail
  refine AD.out.mono ?_
  rintro e w3 ⟨rfl, hL3, hm3⟩
  have B3 := Lib.hid (B2.out.trans (hm3.below (B := w.heap.size) B2.out.size fun k hk => by
    rcases hk with hk | ⟨hk, -⟩
    · exact hk.elim
    · exact hk))
  obtain ⟨v, rs, G, hO, -, -, -⟩ := hL3
  have HT := Lib.hid (hits w.heap.size c _ v rs G _ (by decide) (by decide) w3 hO)
  clear hm3 hO
  go_wp2_with fail
  refine HT.out.mono ?_
  rintro e w4 ⟨v4, rs4, rfl, ho4, hh4, hb4⟩
  have B4 := Lib.hid (B3.out.trans (hb4.mono B3.out.size))
  have hl4 := hh4.len
  have hh := HitsF.of_own (F := fun k => w3.heap.size ≤ k ∧ k < w4.heap.size) ho4 (fun b hb => ho4.lt b hb) hh4.rows
  obtain ⟨p, cap, rfl, -, -, -, -⟩ := id hh
  obtain ⟨rs', -, -, hel⟩ := hh.rows
  obtain ⟨b, off, up, uc, -, rfl, -, -, c0, -, -, -, -⟩ := hel 0 (by decide)
  obtain ⟨b', off', up', uc', -, hp, -, -, d0, -, -, -, -⟩ := hel 1 (by decide)
  obtain ⟨rfl, rfl⟩ : b = b' ∧ off = off' := by simpa using hp
  clear hel hh ho4 hh4 hb4 hl4 hp
  simp only [List.getElem_cons_zero, List.getElem_cons_succ, List.length_cons, List.length_nil, Nat.zero_add, Nat.reduceAdd, Nat.reduceMul, Nat.add_zero] at c0 d0 ⊢
  go_wp2_with fail
  go_ret
  exact ⟨rfl, B4.out⟩

end Go.Proofs.Ytfjhipaoljnfaaa
