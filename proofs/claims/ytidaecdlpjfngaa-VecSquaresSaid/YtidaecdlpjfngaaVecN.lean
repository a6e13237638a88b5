import Derived.Test.YtidaecdlpjfngaaVecH
import Derived.Test.YtidaecdlpjfngaaOwn
namespace Go.Proofs.Ytidaecdlpjfngaa
open Go.RowKit

theorem rowI32 : RowTy Try.prog 22 21 1 4 (.int .i32 0) := ⟨Try.underlying22, infoI32, rfl, by decide⟩

theorem tmod_in (x m : Int) (hm : 0 < m) : -m < x.tmod m ∧ x.tmod m < m := by
  rcases Int.le_total 0 x with h | h
  · rw [Int.tmod_eq_emod_of_nonneg h]
    have := Int.emod_nonneg x (show m ≠ 0 by omega)
    have := Int.emod_lt_of_pos x hm
    omega
  · obtain ⟨y, rfl⟩ : ∃ y, x = -y := ⟨-x, by omega⟩
    rw [Int.neg_tmod, Int.tmod_eq_emod_of_nonneg (by omega)]
    have := Int.emod_nonneg y (show m ≠ 0 by omega)
    have := Int.emod_lt_of_pos y hm
    omega

/-- the first k of xs, each turned by f, as cells -/
def cells (f : Int → Int) (xs : List Int) (k : Nat) : List Value := ((xs.take k).map f).map (Value.int .i32)

theorem cells_snoc (f : Int → Int) (xs : List Int) (k : Nat) (hk : k < xs.length) : cells f xs k ++ (#[Value.int .i32 (f xs[k])] : Array Value).toList = cells f xs (k + 1) := by
  unfold cells
  rw [List.take_succ_eq_append_getElem hk, List.map_append, List.map_append]
  rfl

def six (xs ys : List Int) (b : Int) (k : Nat) (p q x y u v : Value) : List (Value × Nat × List Value) :=
  [(p, k, cells (fun n => n.tmod 1000000) xs k), (q, k, cells (fun n => n.tmod 1000000) ys k), (x, k, cells (fun n => n.tmod 1000000 + b) xs k), (y, k, cells (fun n => n.tmod 1000000 + b) ys k),
    (u, k, cells (fun n => 2 * n.tmod 1000000) xs k), (v, k, cells (fun n => 2 * n.tmod 1000000) ys k)]

theorem distZ_moved (b : Int) : ∀ xs ys : List Int, distZ (xs.map (· + b)) (ys.map (· + b)) = distZ xs ys
  | [], _ => by simp [distZ]
  | _ :: _, [] => by simp [distZ]
  | x :: xs, y :: ys => by
    simp only [List.map_cons, distZ]
    rw [distZ_moved b xs ys]
    have : x + b - (y + b) = x - y := by omega
    rw [this]

theorem distZ_twice : ∀ xs ys : List Int, distZ (xs.map (2 * ·)) (ys.map (2 * ·)) = 4 * distZ xs ys
  | [], _ => by simp [distZ]
  | _ :: _, [] => by simp [distZ]
  | x :: xs, y :: ys => by
    simp only [List.map_cons, distZ]
    rw [distZ_twice xs ys]
    have : (2 * x - 2 * y) * (2 * x - 2 * y) = 4 * ((x - y) * (x - y)) := by
      rw [show 2 * x - 2 * y = 2 * (x - y) from by omega, Int.mul_assoc, Int.mul_left_comm (x - y) 2 (x - y)]; omega
    rw [this]; omega

theorem right_of_in {xs : List Int} (h1 : 0 < xs.length) (h2 : xs.length ≤ 8) (h : ∀ x ∈ xs, -268435456 ≤ x ∧ x ≤ 268435456) : rightB xs = true := by
  have : xs.any outB = false := by
    simp only [List.any_eq_false]
    intro x hx
    have := h x hx
    simp [outB]; omega
  simp [rightB, this, h1, h2]

theorem squares_plain (xs ys : List Int) (k : Nat) (b : Int) (h0 : 0 < k) (h8 : k ≤ 8) (h1 : k ≤ xs.length) (h2 : k ≤ ys.length) (hb : -1000 < b ∧ b < 1000) :
    rightB ((xs.take k).map fun n => n.tmod 1000000) = true ∧ rightB ((ys.take k).map fun n => n.tmod 1000000) = true ∧
    rightB ((xs.take k).map fun n => n.tmod 1000000 + b) = true ∧ rightB ((ys.take k).map fun n => n.tmod 1000000 + b) = true ∧
    rightB ((xs.take k).map fun n => 2 * n.tmod 1000000) = true ∧ rightB ((ys.take k).map fun n => 2 * n.tmod 1000000) = true ∧
    distZ ((xs.take k).map fun n => n.tmod 1000000 + b) ((ys.take k).map fun n => n.tmod 1000000 + b) = distZ ((xs.take k).map fun n => n.tmod 1000000) ((ys.take k).map fun n => n.tmod 1000000) ∧
    distZ ((xs.take k).map fun n => 2 * n.tmod 1000000) ((ys.take k).map fun n => 2 * n.tmod 1000000) = 4 * distZ ((xs.take k).map fun n => n.tmod 1000000) ((ys.take k).map fun n => n.tmod 1000000) ∧
    0 ≤ distZ ((xs.take k).map fun n => n.tmod 1000000) ((ys.take k).map fun n => n.tmod 1000000) ∧ distZ ((xs.take k).map fun n => n.tmod 1000000) ((ys.take k).map fun n => n.tmod 1000000) ≤ 8 * 288230376151711744 := by
  have rt : ∀ (zs : List Int) (f : Int → Int), k ≤ zs.length → (∀ n, -268435456 ≤ f n ∧ f n ≤ 268435456) → rightB ((zs.take k).map f) = true := by
    intro zs f hk hf
    refine right_of_in (by simp; omega) (by simp; omega) fun x hx => ?_
    obtain ⟨n, _, rfl⟩ := List.mem_map.1 hx
    exact hf n
  have ht : ∀ n : Int, -1000000 < n.tmod 1000000 ∧ n.tmod 1000000 < 1000000 := fun n => tmod_in n 1000000 (by decide)
  have r1 := rt xs (fun n => n.tmod 1000000) h1 (fun n => by have := ht n; omega)
  have r2 := rt ys (fun n => n.tmod 1000000) h2 (fun n => by have := ht n; omega)
  refine ⟨r1, r2, rt _ _ h1 (fun n => by have := ht n; omega), rt _ _ h2 (fun n => by have := ht n; omega), rt _ _ h1 (fun n => by have := ht n; omega), rt _ _ h2 (fun n => by have := ht n; omega), ?_, ?_, distZ_nonneg _ _, ?_⟩
  · have := distZ_moved b ((xs.take k).map fun n => n.tmod 1000000) ((ys.take k).map fun n => n.tmod 1000000)
    rw [List.map_map, List.map_map] at this
    exact this
  · have := distZ_twice ((xs.take k).map fun n => n.tmod 1000000) ((ys.take k).map fun n => n.tmod 1000000)
    rw [List.map_map, List.map_map] at this
    exact this
  · have hx := inB_of_right r1
    have hy := inB_of_right r2
    have := (distZ_in hx.1 hy.1 (by simp; omega) _ (Nat.le_refl _)).2
    have el : ((xs.take k).map fun n => n.tmod 1000000).length = ((ys.take k).map fun n => n.tmod 1000000).length := by simp; omega
    rw [List.take_length, el, List.take_length] at this
    have hle := hy.2.2
    omega

set_option maxHeartbeats 1000000 in
theorem vecSquares (xs ys : List Int) (v u : Value) (by_ : Int) (w : World) (h : Nums w .i32 v xs) (g : Nums w .i32 u ys) (hb : -2147483648 ≤ by_ ∧ by_ ≤ 2147483647) :
    Calls Try.prog 3 #[v, u, .int .i32 by_] w fun e w' => e = .returned (.bool true) ∧ Below w.heap.size w w' := by
  have H := Lib.hid h
  have G := Lib.hid g
  clear h g
  go_enter Try.func3, Try.ntmps3
  go_wp2_with fail
  refine (awake_true _).mono ?_
  rintro e w1 ⟨rfl, hb1⟩
  have B1 := Lib.hid hb1
  clear hb1
  go_wp2_with fail
  refine (cutVec xs _ 8 w1 (H.out.below B1.out) (by decide) (.inr (by decide))).mono ?_
  intro e w2 hN
  obtain ⟨a, rfl, hA, hb2⟩ := hN.nums
  have G2 := Lib.hid ((G.out.below B1.out).below hb2)
  have A := Lib.hid hA
  have B2 := Lib.hid (B1.out.trans (hb2.mono B1.out.size))
  clear hN hA hb2
  go_wp2_with fail
  refine (cutVec ys _ 8 w2 G2.out (by decide) (.inr (by decide))).mono ?_
  intro e w3 hN
  obtain ⟨b, rfl, hB, hb3⟩ := hN.nums
  have B := Lib.hid hB
  have A2 := Lib.hid (A.out.below hb3)
  have B3 := Lib.hid (B2.out.trans (hb3.mono B2.out.size))
  clear hN hB hb3
  have hx8 : (xs.take (8 : Int).toNat).length ≤ 8 := by simp; omega
  have hy8 : (ys.take (8 : Int).toNat).length ≤ 8 := by simp; omega
  generalize xs.take (8 : Int).toNat = xs' at *
  generalize ys.take (8 : Int).toNat = ys' at *
  obtain ⟨p, cap, rfl, hcap, hbig, -, hc⟩ := A2.out.slice
  obtain ⟨q, cap', rfl, hcap', hbig', -, hc'⟩ := B.out.slice
  clear hc hc' A G2 B1 B2
  obtain ⟨m, hmin, hm1, hm2⟩ : ∃ m : Nat, (if ys'.length < xs'.length then (ys'.length : Int) else (xs'.length : Int)) = (m : Int) ∧ m ≤ xs'.length ∧ m ≤ ys'.length := by
    by_cases hlt : ys'.length < xs'.length
    · exact ⟨ys'.length, by rw [if_pos hlt], by omega, by omega⟩
    · exact ⟨xs'.length, by rw [if_neg hlt], by omega, by omega⟩
  by_cases hm0 : m = 0
  · subst hm0
    have e0 : ((0 : Nat) : Int) = 0 := rfl
    rw [e0] at hmin
    clear e0
    go_wp2_with fail
    go_ret
    exact ⟨rfl, B3.out⟩
  · have hmz : ((m : Int) == 0) = false := by simp; omega
    have hbt := tmod_in by_ 1000 (by decide)
    have hby : (m : Int) = m := rfl
    clear hby
    go_wp2_with fail
    generalize by_.tmod 1000 = b at *
    go_loopw [8, 9, 10, 11, 12, 13, 39] (fun p q x y u v i wr => ∃ k : Nat, k ≤ m ∧ i = .int .i64 k ∧ OwnList wr w3.heap.size 21 1 (six xs' ys' b k p q x y u v) ∧ Below w3.heap.size w3 wr) (fun _ _ _ _ _ _ i _ => m - (intOf i).toNat)
    case atStart =>
      refine ⟨0, by omega, rfl, ⟨?_, ?_⟩, Below.refl _ _⟩
      · intro r hr
        simp only [six, List.mem_cons, List.not_mem_nil, or_false] at hr
        rcases hr with rfl | rfl | rfl | rfl | rfl | rfl <;> exact World.ownsRow_nil _ _ _ _
      · simp [six, Value.ownBlock]
    case round =>
      obtain ⟨k, hk, rfl, hO, hb⟩ := hrel
      by_cases hlt : k < m
      · have hlt1 : k < xs'.length := by omega
        have hlt2 : k < ys'.length := by omega
        obtain ⟨bx, ox, rfl, hcell⟩ := (A2.out.below hb).elem hlt1
        obtain ⟨b', off', rfl, hcell'⟩ := (B.out.below hb).elem hlt2
        have hw := hb.size
        have O := Lib.hid (And.intro hO hb)
        clear hO hb
        have t1 := tmod_in xs'[k] 1000000 (by decide)
        have t2 := tmod_in ys'[k] 1000000 (by decide)
        go_wp2_with fail
        go_quiet (fail)
        rename_i nq
        have O2 : Hid (OwnList (wr.drewN nq) w3.heap.size 21 1 (six xs' ys' b k u8 u9 u10 u11 u12 u13) ∧ Below w3.heap.size w3 (wr.drewN nq)) := ⟨⟨O.out.1.own, O.out.1.apart⟩, below_drewN O.out.2 _⟩
        generalize wr.drewN nq = W0 at *
        clear O
        obtain ⟨O0, b0⟩ := O2.out
        obtain ⟨g1, c1, W1, r1, O1, b1, -⟩ := O0.push rowI32 b0.size 0 rfl #[.int .i32 (xs'[k].tmod 1000000)] rfl (by simp [Value.oneCell']) (by simp [maxLen]; omega) (by omega)
        have s1 := (b0.trans b1).size
        obtain ⟨g2, c2, W2, r2, O2', b2, -⟩ := O1.push rowI32 s1 1 rfl #[.int .i32 (ys'[k].tmod 1000000)] rfl (by simp [Value.oneCell']) (by simp [maxLen]; omega) (by omega)
        have s2 := ((b0.trans b1).trans b2).size
        obtain ⟨g3, c3, W3, r3, O3, b3, -⟩ := O2'.push rowI32 s2 2 rfl #[.int .i32 (xs'[k].tmod 1000000 + b)] rfl (by simp [Value.oneCell']) (by simp [maxLen]; omega) (by omega)
        have s3 := (((b0.trans b1).trans b2).trans b3).size
        obtain ⟨g4, c4, W4, r4, O4, b4, -⟩ := O3.push rowI32 s3 3 rfl #[.int .i32 (ys'[k].tmod 1000000 + b)] rfl (by simp [Value.oneCell']) (by simp [maxLen]; omega) (by omega)
        have s4 := ((((b0.trans b1).trans b2).trans b3).trans b4).size
        obtain ⟨g5, c5, W5, r5, O5, b5, -⟩ := O4.push rowI32 s4 4 rfl #[.int .i32 (2 * xs'[k].tmod 1000000)] rfl (by simp [Value.oneCell']) (by simp [maxLen]; omega) (by omega)
        have s5 := (((((b0.trans b1).trans b2).trans b3).trans b4).trans b5).size
        obtain ⟨g6, c6, W6, r6, O6, b6, -⟩ := O5.push rowI32 s5 5 rfl #[.int .i32 (2 * ys'[k].tmod 1000000)] rfl (by simp [Value.oneCell']) (by simp [maxLen]; omega) (by omega)
        have F : Hid (OwnList W6 w3.heap.size 21 1 (six xs' ys' b (k + 1) (.slice (some ⟨g1, 0, none⟩) (k + 1) c1) (.slice (some ⟨g2, 0, none⟩) (k + 1) c2) (.slice (some ⟨g3, 0, none⟩) (k + 1) c3) (.slice (some ⟨g4, 0, none⟩) (k + 1) c4) (.slice (some ⟨g5, 0, none⟩) (k + 1) c5) (.slice (some ⟨g6, 0, none⟩) (k + 1) c6)) ∧ Below w3.heap.size w3 W6) := by
          refine ⟨?_, (((((b0.trans b1).trans b2).trans b3).trans b4).trans b5).trans b6⟩
          unfold six
          rw [← cells_snoc _ xs' k hlt1, ← cells_snoc _ ys' k hlt2, ← cells_snoc _ xs' k hlt1, ← cells_snoc _ ys' k hlt2, ← cells_snoc _ xs' k hlt1, ← cells_snoc _ ys' k hlt2]
          exact O6
        clear O0 b0 O1 b1 O2' b2 O3 b3 O4 b4 O5 b5 O6 b6 s1 s2 s3 s4 s5
        go_wp2_with (at_builtin; first | refine wpList_append_eq r1 rfl _ _ rfl rfl rfl ?_ | refine wpList_append_eq r2 rfl _ _ rfl rfl rfl ?_ | refine wpList_append_eq r3 rfl _ _ rfl rfl rfl ?_ | refine wpList_append_eq r4 rfl _ _ rfl rfl rfl ?_ | refine wpList_append_eq r5 rfl _ _ rfl rfl rfl ?_ | refine wpList_append_eq r6 rfl _ _ rfl rfl rfl ?_)
        go_roundw
        case rel => exact ⟨k + 1, by omega, by go_num, F.out⟩
        case measure => simp [intOf]; omega
      · obtain rfl : k = m := by omega
        have F := Lib.hid (And.intro hO (B3.out.trans (hb.mono B3.out.size)))
        have own : ∀ (f : Int → Int) (zs : List Int) (z : Value) (hz : k ≤ zs.length), wr.ownsRow w3.heap.size 21 1 z k (cells f zs k) → Nums wr .i32 z ((zs.take k).map f) := fun f zs z hz h => Nums.of_own h
        have n1 := own _ _ _ hm1 (hO.get 0 rfl)
        have n2 := own _ _ _ hm2 (hO.get 1 rfl)
        have n3 := own _ _ _ hm1 (hO.get 2 rfl)
        have n4 := own _ _ _ hm2 (hO.get 3 rfl)
        have n5 := own _ _ _ hm1 (hO.get 4 rfl)
        have n6 := own _ _ _ hm2 (hO.get 5 rfl)
        have D := Lib.hid (squares_plain xs' ys' k b (by omega) (by omega) hm1 hm2 hbt)
        have d1 := dist_yes _ _ _ _ wr n1 n2 D.out.1 D.out.2.1 (by simp; omega)
        have d2 := dist_yes _ _ _ _ wr n3 n4 D.out.2.2.1 D.out.2.2.2.1 (by simp; omega)
        have d3 := dist_yes _ _ _ _ wr n5 n6 D.out.2.2.2.2.1 D.out.2.2.2.2.2.1 (by simp; omega)
        rw [D.out.2.2.2.2.2.2.1] at d2
        rw [D.out.2.2.2.2.2.2.2.1] at d3
        have hr := D.out.2.2.2.2.2.2.2.2
        generalize distZ ((xs'.take k).map fun n => n.tmod 1000000) ((ys'.take k).map fun n => n.tmod 1000000) = z at *
        have D1 := Lib.hid d1
        have D2 := Lib.hid d2
        have D3 := Lib.hid d3
        clear d1 d2 d3 n1 n2 n3 n4 n5 n6 hO hb own
        go_wp2_with (go_at_call 13; first | ((with_reducible refine D1.out.mono ?_); rintro e w' ⟨rfl, rfl⟩) | ((with_reducible refine D2.out.mono ?_); rintro e w' ⟨rfl, rfl⟩) | ((with_reducible refine D3.out.mono ?_); rintro e w' ⟨rfl, rfl⟩))
        go_ret
        exact ⟨rfl, F.out.2⟩

end Go.Proofs.Ytidaecdlpjfngaa
