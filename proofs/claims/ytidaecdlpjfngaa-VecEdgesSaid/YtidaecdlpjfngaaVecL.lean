import Derived.Test.YtidaecdlpjfngaaVecG
namespace Go.Proofs.Ytidaecdlpjfngaa
open Go.RowKit

theorem right_edges (k i : Nat) (by_ : Int) (h0 : 0 < k) (hi : i < k) : rightB ((List.replicate k (0 : Int)).set i by_) = (decide (k ≤ 8) && !outB by_) := by
  have hany : ((List.replicate k (0 : Int)).set i by_).any outB = outB by_ := by
    rw [Bool.eq_iff_iff, List.any_eq_true]
    constructor
    · rintro ⟨x, hx, ho⟩
      rcases List.mem_or_eq_of_mem_set hx with hx | rfl
      · obtain rfl := List.eq_of_mem_replicate hx
        simp [outB] at ho
      · exact ho
    · intro ho
      exact ⟨by_, List.mem_set (by simpa using hi) _, ho⟩
  simp [rightB, hany, h0]

theorem right_none : rightB [] = false := rfl

/-- a made row of zeros reads so -/
theorem made_zeros (n : Nat) : (madeCells (Value.int IntKind.i32 0).cells (n * 1)).toList = (List.replicate n (0 : Int)).map (Value.int .i32) := by
  refine List.ext_getElem ?_ fun j h1 h2 => ?_
  · simp [madeCells]
  · simp [madeCells, Value.cells, Nat.mod_one]

theorem made_zeros' (n : Nat) : (madeCells #[Value.int IntKind.i32 0] n).toList = (List.replicate n (0 : Int)).map (Value.int .i32) := by
  have := made_zeros n
  rwa [Nat.mul_one] at this

theorem edges_zero (n at_ by_ : Int) (w : World) (hn : 0 ≤ n ∧ n ≤ 255) (hk : n % 11 = 0) :
    Calls Try.prog 5 #[.int .u8 n, .int .u8 at_, .int .i32 by_] w fun r w' => r = .returned (.bool true) ∧ Below w.heap.size w w' := by
  obtain ⟨i0, hi, hz0, hz1, hz2⟩ := info_parts infoI32
  go_enter Try.func5, Try.ntmps5
  go_wp2_with fail
  refine (awake_true _).mono ?_
  rintro r w1 ⟨rfl, hb1⟩
  have B1 := Lib.hid hb1
  clear hb1
  go_wp2_with (refine wpList_make_full _ rfl _ _ 22 rfl w1.heap.size 21 i0 (.int .i32 0) 1 Try.underlying22 hi hz0 hz1 .i64 .i64 0 0 0 rfl rfl rfl rfl (by omega) (by simp [maxLen]) (Nat.le_refl _) ?_)
  intro w2 hown hg
  have N2 : Nums w2 .i32 (.slice (some ⟨w1.heap.size, 0, none⟩) 0 0) [] := Nums.mk (xs := []) (by simp) (by simp) (by simp) (by simp)
  have B2 := Lib.hid (B1.out.trans ((Below.refl w1.heap.size w1).grown hg (Nat.le_refl _) (by simp) |>.mono B1.out.size))
  have N := Lib.hid N2
  clear N2 hown hg
  go_wp2_with (go_at_call 15; first | ((with_reducible refine (right [] _ w2 N.out).mono ?_); rintro e w' ⟨rfl, rfl⟩) | (refine (right [] _ w2 (Nums.mk (xs := []) (by simp) (by simp) (by simp) (by simp))).mono ?_; rintro e w' ⟨rfl, rfl⟩))
  go_ret
  exact ⟨rfl, B2.out⟩

theorem edges_some (n at_ by_ : Int) (k i : Nat) (w : World) (hn : 0 ≤ n ∧ n ≤ 255) (ha : 0 ≤ at_ ∧ at_ ≤ 255) (hb : -2147483648 ≤ by_ ∧ by_ ≤ 2147483647) (hk : n % 11 = (k : Int)) (h0 : 0 < k) (hi : at_ % (k : Int) = (i : Int)) :
    Calls Try.prog 5 #[.int .u8 n, .int .u8 at_, .int .i32 by_] w fun r w' => r = .returned (.bool true) ∧ Below w.heap.size w w' := by
  obtain ⟨i0, hi0, hz0, hz1, hz2⟩ := info_parts infoI32
  have hk11 : k ≤ 10 := by omega
  have hik : i < k := by have := Int.emod_lt_of_pos at_ (show 0 < (k : Int) by omega); omega
  have hkz : ((k : Int) == 0) = false := by simp; omega
  have hed := right_edges k i by_ h0 hik
  have E := Lib.hid hed
  clear hed
  go_enter Try.func5, Try.ntmps5
  go_wp2_with fail
  refine (awake_true _).mono ?_
  rintro r w1 ⟨rfl, hb1⟩
  have B1 := Lib.hid hb1
  clear hb1
  go_wp2_with (refine wpList_make_full _ rfl _ _ 22 rfl w1.heap.size 21 i0 (.int .i32 0) 1 Try.underlying22 hi0 hz0 hz1 .i64 .i64 k k k rfl rfl rfl rfl (by rw [hz2]; omega) (by simp [maxLen]; omega) (Nat.le_refl _) ?_)
  intro w2 hown hg
  rw [made_zeros'] at hown
  have hst := hown.stored i (.int .i32 by_)
  rw [← List.map_set] at hst
  have B2 := Lib.hid (B1.out.trans ((Below.refl w1.heap.size w1).grown hg (Nat.le_refl _) (by simp) |>.mono B1.out.size))
  have hcell := hown.cellAt i (by omega)
  rw [List.getElem?_map, List.getElem?_replicate, if_pos hik] at hcell
  have hfr := hown.frozenAt i
  have N := Lib.hid (Nums.of_own hst.1)
  have hsz : w1.heap.size < w2.heap.size := by have := hown.lt w1.heap.size rfl; omega
  clear hst hown hg
  have hcell' : w2.cell? ⟨w1.heap.size, i, none⟩ = some (.int .i32 0) := by simpa using hcell
  clear hcell
  go_wp2_with fail
  refine (right _ _ _ N.out).mono ?_
  rintro e w' ⟨rfl, rfl⟩
  rw [E.out]
  have fin : Below w.heap.size w (w2.setCell ⟨w1.heap.size, i, none⟩ (.int .i32 by_)) := B2.out.setCell B1.out.size _
  have F := Lib.hid fin
  clear fin
  by_cases c1 : k ≤ 8
  · by_cases c2 : by_ ≤ 268435456
    · by_cases c3 : -268435456 ≤ by_
      · go_wp2_with fail
        go_ret
        exact ⟨ret_bool (by simp [outB, c1]; omega), F.out⟩
      · go_wp2_with fail
        go_ret
        exact ⟨ret_bool (by simp [outB, c1, show by_ < -268435456 from by omega]), F.out⟩
    · go_wp2_with fail
      go_ret
      exact ⟨ret_bool (by simp [outB, c1]; omega), F.out⟩
  · go_wp2_with fail
    go_ret
    exact ⟨ret_bool (by simp [outB, c1]), F.out⟩

theorem vecEdges (n at_ by_ : Int) (w : World) (hn : 0 ≤ n ∧ n ≤ 255) (ha : 0 ≤ at_ ∧ at_ ≤ 255) (hb : -2147483648 ≤ by_ ∧ by_ ≤ 2147483647) :
    Calls Try.prog 5 #[.int .u8 n, .int .u8 at_, .int .i32 by_] w fun r w' => r = .returned (.bool true) ∧ Below w.heap.size w w' := by
  by_cases h : n % 11 = 0
  · exact edges_zero n at_ by_ w hn h
  · obtain ⟨k, hk⟩ := Int.eq_ofNat_of_zero_le (show 0 ≤ n % 11 by omega)
    have h0 : 0 < k := by omega
    obtain ⟨i, hi⟩ := Int.eq_ofNat_of_zero_le (Int.emod_nonneg at_ (show (k : Int) ≠ 0 by omega))
    exact edges_some n at_ by_ k i w hn ha hb hk h0 hi

end Go.Proofs.Ytidaecdlpjfngaa
