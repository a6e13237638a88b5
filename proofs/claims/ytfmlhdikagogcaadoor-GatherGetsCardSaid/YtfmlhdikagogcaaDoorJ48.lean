/-
  gather: an ID is asked of its own shard alone: the walk.
-/
import Derived.Test.YtfmlhdikagogcaaDoorJ47
import Derived.Deep.DeepCutAuto
namespace Go.Proofs.YtfmlhdikagogcaaDoor
open Go.RowKit
set_option maxRecDepth 20000

theorem min2i (a b : Int) (w : World) : (Builtin.min_ #[3, 3] 3 #[.int .i64 a, .int .i64 b]).run Tryd.prog w = .ok (.int .i64 (min a b)) w := by
  simp [Builtin.min_, Builtin.min2]
  by_cases h : b < a
  · simp [h]; omega
  · simp [h]; omega


set_option maxHeartbeats 40000000 in
theorem gatherGets (id a code : Int) (xs : List Int) (v : Value) (w : World) (hid : 0 ≤ id ∧ id ≤ 18446744073709551615) (ha : 0 ≤ a ∧ a ≤ 255) (hcode : 0 ≤ code ∧ code ≤ 255) (hv : Nums w .i32 v xs) (hT : Tab w) :
    Calls Tryd.prog 5 #[.int .u64 id, .int .u8 a, v, .int .u8 code] w fun e w' => e = .returned (.bool true) ∧ Below w.heap.size w w' := by
  have TT := Lib.hid hT
  have AW := Lib.hid (awake w hT)
  obtain ⟨n, hn, hn1⟩ : ∃ n : Int, n = 1 + a % 4 ∧ 1 ≤ n ∧ n ≤ 4 := ⟨1 + a % 4, rfl, by omega, by omega⟩
  obtain ⟨i, hi, hi1⟩ : ∃ i : Int, i = id % 1099511627776 ∧ 0 ≤ i ∧ i ≤ 1099511627776 := ⟨id % 1099511627776, rfl, by omega, by omega⟩
  obtain ⟨vp, vc, rfl, hcap, hbig, -, -⟩ := hv.slice
  have HV := Lib.hid hv
  have CP := Lib.hid (And.intro hcap hbig)
  clear hT hv hcap hbig
  go_enter Tryd.func5, Tryd.ntmps5
  go_wp2_with fail
  refine AW.out.mono ?_
  rintro e w0 ⟨rfl, hb0⟩
  go_wp2_with fail
  rw [← hn]
  refine (newS n 2 0 w0 (by omega)).mono ?_
  rintro e w1 ⟨c, rfl, hG1, hb1⟩
  have B1 := Lib.hid (hb0.trans (hb1.mono hb0.size))
  obtain ⟨F1, R1, hG1⟩ := hG1.mono hb0.size
  have A := Lib.hid (show Calls Tryd.prog 11 #[.pointer (some ⟨c, 0, none⟩), .int .i64 5, .agg #[.int .u8 8, .int .u64 0, .int .u64 0, .int .u64 0, .int .u64 0, .int .u64 0, .int .u64 3, .int .u64 i, .int .i64 0, .int .i64 0, .int .i64 0, .int .i64 0, .slice none 0 0, .slice none 0 0, .slice none 0 0, .slice none 0 0], .int .u64 7, .int .u64 2] w1 _ from askT w.heap.size c F1 R1 ⟨n, 2, 0, []⟩ (nG i) (.slice none 0 0) (.slice none 0 0) (.slice none 0 0) (.slice none 0 0) (fun _ => False) 5 7 2 w1 (TT.out.below B1.out) hG1 B1.out.size (ok_new n 2 0 hn1) ⟨Nums.nil _ _, RecsF.nil _ _, Nums.nil _ _, HitsF.nil _ _⟩ (by simp [nG]) (by simp [nG]) (get_ask n i hi1))
  have L1 := Lib.hid (fun k h => (hG1.low k h).1)
  clear hb0 hb1 hG1 AW
  go_wp2_with fail
  rw [← hi]
  refine A.out.mono ?_
  rintro e w3 ⟨v3, rs3, G3, F3, R3, rfl, ho3, hs3, -, -, hnF, hG3, hmd3, -, -⟩
  have hb3 := hmd3.below (B := w.heap.size) B1.out.size L1.out
  obtain ⟨a1, a2, a3, a4, rs4, rfl, hs4⟩ := says_cons hs3
  obtain rfl := says_nil hs4
  obtain ⟨p, m, cp, rfl⟩ := own_form ho3
  obtain ⟨b, rfl, rfl, -, hbl, hc⟩ := mails_at ho3 (by simp)
  obtain ⟨y, hy⟩ : ∃ y, y = homeZ i n := ⟨_, rfl⟩
  obtain ⟨z, hz⟩ : ∃ z, z = 1 + y := ⟨_, rfl⟩
  have c0 : w3.cell? ⟨b, 0, none⟩ = some (.int .i64 z) := by rw [hz, hy]; exact hc 0 0 _ (by simp) rfl
  have c4 : w3.cell? ⟨b, 4, none⟩ = some (.int .u64 7) := hc 0 4 _ (by simp) rfl
  have c6 : w3.cell? ⟨b, 6, none⟩ = some (.int .u64 2) := hc 0 6 _ (by simp) rfl
  have c7 : w3.cell? ⟨b, 7, none⟩ = some (.int .u64 1) := hc 0 7 _ (by simp) rfl
  have c8 : w3.cell? ⟨b, 8, none⟩ = some (.int .u64 i) := hc 0 8 _ (by simp) rfl
  have B3 := Lib.hid (B1.out.trans hb3)
  have G3 := Lib.hid hG3
  have NF := Lib.hid (hnF b rfl)
  have HZ := Lib.hid (And.intro hz hy)
  have HR := Lib.hid (home_range i n hn1.1)
  have hwh : IntKind.i64.wrap (1 + y) = z := by
    have := HR.out
    rw [hz, hy]
    simp only [IntKind.wrap, IntKind.bits, IntKind.signed]; simp; omega
  have RH := Lib.hid (fun W : World => refHome_yes i n W (by omega) (by omega))
  rw [← hy, hn] at RH
  have HN := Lib.hid (And.intro hn hi)
  clear hz hy hn hi
  clear hs3 hs4 ho3 hc hb3 hG3 A hnF hmd3
  go_wp2_with fail
  refine region_goH (fun w' => w'.cell? ⟨b, 0, none⟩ = some (.int .i64 z) ∧ w'.cell? ⟨b, 8, none⟩ = some (.int .u64 i) ∧ w'.cell? ⟨b, 4, none⟩ = some (.int .u64 7) ∧ w'.cell? ⟨b, 6, none⟩ = some (.int .u64 2)) 39 (by kernel_rfl) rfl ?hS0 (fun O hO hH => ?_)
  case hS0 =>
    exact ⟨c0, c8, c4, c6⟩
  refine tkYH (v := ?_) 0 hO hH rfl (fun _ _ _ h => h) ?hc ?hw ?hy ?_
  case hc => decide +kernel
  case hw => rfl
  case hy => (intro w hS; (try dsimp only at hS); go_simp; try with_reducible rfl)
  (try simp only [Act.put]); (repeat (first | simp only [List.setIfInBounds_toArray] | simp only [List.set_cons_zero] | simp only [List.set_cons_succ]))
  refine tkYH (v := ?_) 1 hO hH rfl (fun _ _ _ h => h) ?hc ?hw ?hy ?_
  case hc => decide +kernel
  case hw => rfl
  case hy => (intro w hS; (try dsimp only at hS); go_simp; try with_reducible rfl)
  (try simp only [Act.put]); (repeat (first | simp only [List.setIfInBounds_toArray] | simp only [List.set_cons_zero] | simp only [List.set_cons_succ]))
  refine tkYH (v := ?_) 2 hO hH rfl (fun _ _ _ h => h) ?hc ?hw ?hy ?_
  case hc => decide +kernel
  case hw => rfl
  case hy => (intro w hS; (try dsimp only at hS); go_simp; try with_reducible rfl)
  (try simp only [Act.put]); (repeat (first | simp only [List.setIfInBounds_toArray] | simp only [List.set_cons_zero] | simp only [List.set_cons_succ]))
  refine tkYH (v := ?_) 3 hO hH rfl (fun _ _ _ h => h) ?hc ?hw ?hy ?_
  case hc => decide +kernel
  case hw => rfl
  case hy => (intro w hS; (try dsimp only at hS); go_simp; try with_reducible rfl)
  (try simp only [Act.put]); (repeat (first | simp only [List.setIfInBounds_toArray] | simp only [List.set_cons_zero] | simp only [List.set_cons_succ]))
  refine tkYH (v := ?_) 4 hO hH rfl (fun _ _ _ h => h) ?hc ?hw ?hy ?_
  case hc => decide +kernel
  case hw => rfl
  case hy => (intro w hS; (try dsimp only at hS); go_simp; try with_reducible rfl)
  (try simp only [Act.put]); (repeat (first | simp only [List.setIfInBounds_toArray] | simp only [List.set_cons_zero] | simp only [List.set_cons_succ]))
  refine tkYH (v := ?_) 5 hO hH rfl (fun _ _ _ h => h) ?hc ?hw ?hy ?_
  case hc => decide +kernel
  case hw => rfl
  case hy => (intro w hS; (try dsimp only at hS); go_simp; try with_reducible rfl)
  (try simp only [Act.put]); (repeat (first | simp only [List.setIfInBounds_toArray] | simp only [List.set_cons_zero] | simp only [List.set_cons_succ]))
  refine tkYH (v := ?_) 6 hO hH rfl (fun _ _ _ h => h) ?hc ?hw ?hy ?_
  case hc => decide +kernel
  case hw => rfl
  case hy => (intro w hS; (try dsimp only at hS); go_simp; try with_reducible rfl)
  (try simp only [Act.put]); (repeat (first | simp only [List.setIfInBounds_toArray] | simp only [List.set_cons_zero] | simp only [List.set_cons_succ]))
  refine tkYH (v := ?_) 7 hO hH rfl (fun _ _ _ h => h) ?hc ?hw ?hy ?_
  case hc => decide +kernel
  case hw => rfl
  case hy => (intro w hS; (try dsimp only at hS); go_simp; try with_reducible rfl)
  (try simp only [Act.put]); (repeat (first | simp only [List.setIfInBounds_toArray] | simp only [List.set_cons_zero] | simp only [List.set_cons_succ]))
  refine tkYH (v := ?_) 8 hO hH rfl (fun _ _ _ h => h) ?hc ?hw ?hy ?_
  case hc => decide +kernel
  case hw => rfl
  case hy => (intro w hS; (try dsimp only at hS); go_simp; try with_reducible rfl)
  (try simp only [Act.put]); (repeat (first | simp only [List.setIfInBounds_toArray] | simp only [List.set_cons_zero] | simp only [List.set_cons_succ]))
  refine tkYH (v := ?_) 9 hO hH rfl (fun _ _ _ h => h) ?hc ?hw ?hy ?_
  case hc => decide +kernel
  case hw => rfl
  case hy => (intro w hS; (try dsimp only at hS); go_simp; try with_reducible rfl)
  (try simp only [Act.put]); (repeat (first | simp only [List.setIfInBounds_toArray] | simp only [List.set_cons_zero] | simp only [List.set_cons_succ]))
  refine spkH 10 hO rfl ?hr ?hw (fun K' hK => ?_)
  case hr => decide +kernel
  case hw => rfl
  go_simp
  with_reducible refine (RH.out _).mono ?_
  rintro e w9 ⟨rfl, rfl⟩
  try dsimp only
  refine hK.out _ _ ?hS (fun hH' => ?_)
  case hS =>
    exact hH
  clear hK K' hH; have hH := hH'; clear hH'; (try simp only [Act.put]); (repeat (first | simp only [List.setIfInBounds_toArray] | simp only [List.set_cons_zero] | simp only [List.set_cons_succ]))
  refine tkYH (v := ?_) 11 hO hH rfl (fun _ _ _ h => h) ?hc ?hw ?hy ?_
  case hc => decide +kernel
  case hw => rfl
  case hy => (intro w hS; (try dsimp only at hS); go_simp; try with_reducible rfl)
  (try simp only [Act.put]); (repeat (first | simp only [List.setIfInBounds_toArray] | simp only [List.set_cons_zero] | simp only [List.set_cons_succ]))
  refine tkYH (v := ?_) 12 hO hH rfl (fun _ _ _ h => h) ?hc ?hw ?hy ?_
  case hc => decide +kernel
  case hw => rfl
  case hy => (intro w hS; (try dsimp only at hS); go_simp; try with_reducible rfl)
  (try simp only [Act.put]); (repeat (first | simp only [List.setIfInBounds_toArray] | simp only [List.set_cons_zero] | simp only [List.set_cons_succ]))
  refine tkYH (v := ?_) 13 hO hH rfl (fun _ _ _ h => h) ?hc ?hw ?hy ?_
  case hc => decide +kernel
  case hw => rfl
  case hy => (intro w hS; (try dsimp only at hS); go_simp; try with_reducible rfl)
  (try simp only [Act.put]); (repeat (first | simp only [List.setIfInBounds_toArray] | simp only [List.set_cons_zero] | simp only [List.set_cons_succ]))
  refine tkYH (v := ?_) 14 hO hH rfl (fun _ _ _ h => h) ?hc ?hw ?hy ?_
  case hc => decide +kernel
  case hw => rfl
  case hy => (intro w hS; (try dsimp only at hS); go_simp; try with_reducible rfl)
  (try simp only [Act.put]); (repeat (first | simp only [List.setIfInBounds_toArray] | simp only [List.set_cons_zero] | simp only [List.set_cons_succ]))
  refine tkYH (v := ?_) 15 hO hH rfl (fun _ _ _ h => h) ?hc ?hw ?hy ?_
  case hc => decide +kernel
  case hw => rfl
  case hy => (intro w hS; (try dsimp only at hS); go_simp; try with_reducible rfl)
  (try simp only [Act.put]); (repeat (first | simp only [List.setIfInBounds_toArray] | simp only [List.set_cons_zero] | simp only [List.set_cons_succ]))
  refine tkYH (v := ?_) 16 hO hH rfl (fun _ _ _ h => h) ?hc ?hw ?hy ?_
  case hc => decide +kernel
  case hw => rfl
  case hy => (intro w hS; (try dsimp only at hS); go_simp; try with_reducible rfl)
  (try simp only [Act.put]); (repeat (first | simp only [List.setIfInBounds_toArray] | simp only [List.set_cons_zero] | simp only [List.set_cons_succ]))
  refine tkYH (v := ?_) 17 hO hH rfl (fun _ _ _ h => h) ?hc ?hw ?hy ?_
  case hc => decide +kernel
  case hw => rfl
  case hy => (intro w hS; (try dsimp only at hS); go_simp; try with_reducible rfl)
  (try simp only [Act.put]); (repeat (first | simp only [List.setIfInBounds_toArray] | simp only [List.set_cons_zero] | simp only [List.set_cons_succ]))
  refine tkYH (v := ?_) 18 hO hH rfl (fun _ _ _ h => h) ?hc ?hw ?hy ?_
  case hc => decide +kernel
  case hw => rfl
  case hy => (intro w hS; (try dsimp only at hS); go_simp; try with_reducible rfl)
  (try simp only [Act.put]); (repeat (first | simp only [List.setIfInBounds_toArray] | simp only [List.set_cons_zero] | simp only [List.set_cons_succ]))
  refine tkYH (v := ?_) 19 hO hH rfl (fun _ _ _ h => h) ?hc ?hw ?hy ?_
  case hc => decide +kernel
  case hw => rfl
  case hy => (intro w hS; (try dsimp only at hS); go_simp; try with_reducible rfl)
  (try simp only [Act.put]); (repeat (first | simp only [List.setIfInBounds_toArray] | simp only [List.set_cons_zero] | simp only [List.set_cons_succ]))
  refine tkYH (v := ?_) 20 hO hH rfl (fun _ _ _ h => h) ?hc ?hw ?hy ?_
  case hc => decide +kernel
  case hw => rfl
  case hy => (intro w hS; (try dsimp only at hS); go_simp; try with_reducible rfl)
  (try simp only [Act.put]); (repeat (first | simp only [List.setIfInBounds_toArray] | simp only [List.set_cons_zero] | simp only [List.set_cons_succ]))
  refine tkYH (v := ?_) 21 hO hH rfl (fun _ _ _ h => h) ?hc ?hw ?hy ?_
  case hc => decide +kernel
  case hw => rfl
  case hy => (intro w hS; (try dsimp only at hS); go_simp; try with_reducible rfl)
  (try simp only [Act.put]); (repeat (first | simp only [List.setIfInBounds_toArray] | simp only [List.set_cons_zero] | simp only [List.set_cons_succ]))
  refine tkYH (v := ?_) 22 hO hH rfl (fun _ _ _ h => h) ?hc ?hw ?hy ?_
  case hc => decide +kernel
  case hw => rfl
  case hy => (intro w hS; (try dsimp only at hS); go_simp; try with_reducible rfl)
  (try simp only [Act.put]); (repeat (first | simp only [List.setIfInBounds_toArray] | simp only [List.set_cons_zero] | simp only [List.set_cons_succ]))
  refine tkYH (v := ?_) 23 hO hH rfl (fun _ _ _ h => h) ?hc ?hw ?hy ?_
  case hc => decide +kernel
  case hw => rfl
  case hy => (intro w hS; (try dsimp only at hS); go_simp; try with_reducible rfl)
  (try simp only [Act.put]); (repeat (first | simp only [List.setIfInBounds_toArray] | simp only [List.set_cons_zero] | simp only [List.set_cons_succ]))
  refine tkYH (v := ?_) 24 hO hH rfl (fun _ _ _ h => h) ?hc ?hw ?hy ?_
  case hc => decide +kernel
  case hw => rfl
  case hy => (intro w hS; (try dsimp only at hS); go_simp; try with_reducible rfl)
  (try simp only [Act.put]); (repeat (first | simp only [List.setIfInBounds_toArray] | simp only [List.set_cons_zero] | simp only [List.set_cons_succ]))
  refine tkYH (v := ?_) 25 hO hH rfl (fun _ _ _ h => h) ?hc ?hw ?hy ?_
  case hc => decide +kernel
  case hw => rfl
  case hy => (intro w hS; (try dsimp only at hS); go_simp; try with_reducible rfl)
  (try simp only [Act.put]); (repeat (first | simp only [List.setIfInBounds_toArray] | simp only [List.set_cons_zero] | simp only [List.set_cons_succ]))
  refine tkYH (v := ?_) 26 hO hH rfl (fun _ _ _ h => h) ?hc ?hw ?hy ?_
  case hc => decide +kernel
  case hw => rfl
  case hy => (intro w hS; (try dsimp only at hS); go_simp; try with_reducible rfl)
  (try simp only [Act.put]); (repeat (first | simp only [List.setIfInBounds_toArray] | simp only [List.set_cons_zero] | simp only [List.set_cons_succ]))
  refine tkYH (v := ?_) 27 hO hH rfl (fun _ _ _ h => h) ?hc ?hw ?hy ?_
  case hc => decide +kernel
  case hw => rfl
  case hy => (intro w hS; (try dsimp only at hS); go_simp; try with_reducible rfl)
  (try simp only [Act.put]); (repeat (first | simp only [List.setIfInBounds_toArray] | simp only [List.set_cons_zero] | simp only [List.set_cons_succ]))
  refine tkYH (v := ?_) 28 hO hH rfl (fun _ _ _ h => h) ?hc ?hw ?hy ?_
  case hc => decide +kernel
  case hw => rfl
  case hy => (intro w hS; (try dsimp only at hS); go_simp; try with_reducible rfl)
  (try simp only [Act.put]); (repeat (first | simp only [List.setIfInBounds_toArray] | simp only [List.set_cons_zero] | simp only [List.set_cons_succ]))
  refine tkYH (v := ?_) 29 hO hH rfl (fun _ _ _ h => h) ?hc ?hw ?hy ?_
  case hc => decide +kernel
  case hw => rfl
  case hy => (intro w hS; (try dsimp only at hS); go_simp; try with_reducible rfl)
  (try simp only [Act.put]); (repeat (first | simp only [List.setIfInBounds_toArray] | simp only [List.set_cons_zero] | simp only [List.set_cons_succ]))
  refine tkYH (v := ?_) 30 hO hH rfl (fun _ _ _ h => h) ?hc ?hw ?hy ?_
  case hc => decide +kernel
  case hw => rfl
  case hy => (intro w hS; (try dsimp only at hS); go_simp; try with_reducible rfl)
  (try simp only [Act.put]); (repeat (first | simp only [List.setIfInBounds_toArray] | simp only [List.set_cons_zero] | simp only [List.set_cons_succ]))
  refine tkYH (v := ?_) 31 hO hH rfl (fun _ _ _ h => h) ?hc ?hw ?hy ?_
  case hc => decide +kernel
  case hw => rfl
  case hy => (intro w hS; (try dsimp only at hS); go_simp; try with_reducible rfl)
  (try simp only [Act.put]); (repeat (first | simp only [List.setIfInBounds_toArray] | simp only [List.set_cons_zero] | simp only [List.set_cons_succ]))
  refine tkYH (v := ?_) 32 hO hH rfl (fun _ _ _ h => h) ?hc ?hw ?hy ?_
  case hc => decide +kernel
  case hw => rfl
  case hy => (intro w hS; (try dsimp only at hS); go_simp; try with_reducible rfl)
  (try simp only [Act.put]); (repeat (first | simp only [List.setIfInBounds_toArray] | simp only [List.set_cons_zero] | simp only [List.set_cons_succ]))
  refine tkYH (v := ?_) 33 hO hH rfl (fun _ _ _ h => h) ?hc ?hw ?hy ?_
  case hc => decide +kernel
  case hw => rfl
  case hy => (intro w hS; (try dsimp only at hS); go_simp; try with_reducible rfl)
  (try simp only [Act.put]); (repeat (first | simp only [List.setIfInBounds_toArray] | simp only [List.set_cons_zero] | simp only [List.set_cons_succ]))
  refine tkYH (v := ?_) 34 hO hH rfl (fun _ _ _ h => h) ?hc ?hw ?hy ?_
  case hc => decide +kernel
  case hw => rfl
  case hy => (intro w hS; (try dsimp only at hS); go_simp; try with_reducible rfl)
  (try simp only [Act.put]); (repeat (first | simp only [List.setIfInBounds_toArray] | simp only [List.set_cons_zero] | simp only [List.set_cons_succ]))
  refine tkYH (v := ?_) 35 hO hH rfl (fun _ _ _ h => h) ?hc ?hw ?hy ?_
  case hc => decide +kernel
  case hw => rfl
  case hy => (intro w hS; (try dsimp only at hS); go_simp; try with_reducible rfl)
  (try simp only [Act.put]); (repeat (first | simp only [List.setIfInBounds_toArray] | simp only [List.set_cons_zero] | simp only [List.set_cons_succ]))
  refine tkYH (v := ?_) 36 hO hH rfl (fun _ _ _ h => h) ?hc ?hw ?hy ?_
  case hc => decide +kernel
  case hw => rfl
  case hy => (intro w hS; (try dsimp only at hS); go_simp; try with_reducible rfl)
  (try simp only [Act.put]); (repeat (first | simp only [List.setIfInBounds_toArray] | simp only [List.set_cons_zero] | simp only [List.set_cons_succ]))
  refine tkYH (v := ?_) 37 hO hH rfl (fun _ _ _ h => h) ?hc ?hw ?hy ?_
  case hc => decide +kernel
  case hw => rfl
  case hy => (intro w hS; (try dsimp only at hS); go_simp; try with_reducible rfl)
  (try simp only [Act.put]); (repeat (first | simp only [List.setIfInBounds_toArray] | simp only [List.set_cons_zero] | simp only [List.set_cons_succ]))
  refine tkYH (v := ?_) 38 hO hH rfl (fun _ _ _ h => h) ?hc ?hw ?hy ?_
  case hc => decide +kernel
  case hw => rfl
  case hy => (intro w hS; (try dsimp only at hS); go_simp; try with_reducible rfl)
  (try simp only [Act.put]); (repeat (first | simp only [List.setIfInBounds_toArray] | simp only [List.set_cons_zero] | simp only [List.set_cons_succ]))
  refine doneH hO (by decide +kernel) ?_
  clear hO
  clear hH
  obtain ⟨W4, hW4⟩ : ∃ W4, W4 = w3.drew := ⟨_, rfl⟩
  have b4 : Below w3.heap.size w3 W4 := by rw [hW4]; exact (Below.refl _ _).drew
  replace c0 := below_cells b4 c0
  replace c7 := below_cells b4 c7
  have B4 := Lib.hid (B3.out.trans (b4.mono B3.out.size))
  have B34 := Lib.hid b4
  rw [← hW4]
  clear hW4 b4 c4 c6 c8
  obtain ⟨mm, hmm, hm1, hm2⟩ : ∃ mm : Nat, (mm : Int) = min (xs.length : Int) 2 ∧ mm ≤ xs.length ∧ mm ≤ 2 := ⟨min xs.length 2, by omega, by omega, by omega⟩
  have hmin := min2i (xs.length : Int) 2 W4
  rw [← hmm] at hmin
  have hmc : mm ≤ vc := by have := CP.out; omega
  have hbig' : vc ≤ 9223372036854775807 := CP.out.2
  obtain ⟨g5, c5, W5, hrun, ho5, hb5⟩ := run_two (HV.out.below B4.out) hm1 hm2
  have O5 := Lib.hid (And.intro ho5 hb5)
  have hc5 : 2 ≤ c5 := by have := (own_cap ho5).1; omega
  replace c0 := below_cells hb5 c0
  replace c7 := below_cells hb5 c7
  clear hmm ho5 hb5
  go_upto_region 11 with (with_reducible refine wpList_append_eq hrun rfl _ _ rfl rfl rfl ?_)
  obtain ⟨vz, hvz⟩ : ∃ vz, vz = (xs.take mm ++ [0, 0]).take 2 := ⟨_, rfl⟩
  have hlz : vz.length = 2 := by rw [hvz]; simp
  obtain ⟨cd, hcd, hcd1⟩ : ∃ cd : Int, cd = code % 14 ∧ 0 ≤ cd ∧ cd ≤ 13 := ⟨code % 14, rfl, by omega, by omega⟩
  rw [← hcd]
  obtain ⟨W6, hW6⟩ : ∃ W6, W6 = W5.alloc (.cells #[.int .u8 10, .int .u64 0, .int .u64 0, .int .u64 0, .int .u64 0, .int .u64 0, .int .u64 1, .int .u64 0, .int .i64 0, .int .i64 0, .int .i64 cd, .int .i64 0, .slice none 0 0, .slice none 0 0, .slice none 0 0, .slice none 0 0] 37) := ⟨_, rfl⟩
  have b6 : Below W5.heap.size W5 W6 := by rw [hW6]; exact (Below.refl _ _).alloc (Nat.le_refl _) _
  have y6 : W6.heap[W5.heap.size]? = some (.cells #[.int .u8 10, .int .u64 0, .int .u64 0, .int .u64 0, .int .u64 0, .int .u64 0, .int .u64 1, .int .u64 0, .int .i64 0, .int .i64 0, .int .i64 cd, .int .i64 0, .slice none 0 0, .slice none 0 0, .slice none 0 0, .slice none 0 0] 37 (0, 0)) := by rw [hW6]; exact heap_alloc_new _ _
  have hs6 : W6.heap.size = W5.heap.size + 1 := by rw [hW6]; simp
  have own6 : W6.ownsRow W4.heap.size 21 1 (.slice (some ⟨g5, 0, none⟩) 2 c5) 2 (vz.map (Value.int .i32)) := by
    have h1 := own_prefix O5.out.1 (k := 2) (by omega)
    rw [← List.map_take, ← hvz] at h1
    exact own_below h1 b6
  have N6 := Lib.hid (Nums.of_own own6)
  have OW6 := Lib.hid (And.intro own6 (O5.out.1.lt g5 rfl))
  have hg5 : W4.heap.size ≤ g5 ∧ g5 < W6.heap.size := own6.lt g5 rfl
  replace c0 := below_cells b6 c0
  have B36 := Lib.hid (B34.out.trans ((O5.out.2.trans (b6.mono O5.out.2.size)).mono B34.out.size))
  have RT := Lib.hid (fun h => refRight vz (.slice (some ⟨g5, 0, none⟩) 2 c5) W6 h)
  have x10 := cells_get y6 10
  have Y6 := Lib.hid y6
  have S6 := Lib.hid (And.intro hs6 hg5)
  have hlt6 : W5.heap.size < W6.heap.size := by omega
  have LZ := Lib.hid (And.intro hlz B34.out.size)
  have CD := Lib.hid (And.intro hcd hcd1)
  rw [← hW6]
  clear hW6 b6 own6 hvz y6 hs6 hg5 c7 hlz hcd
  go_cut [97] (fun s97 wc => s97 = .bool (rightB vz && (cd == 0)) ∧ wc = W6)
  case first =>
    go_wp2_with fail
    with_reducible refine (RT.out N6.out).mono ?_
    rintro e w7 ⟨rfl, rfl⟩
    cases h1 : rightB vz
    · go_wp2_with fail
      go_meet
      exact ⟨by rw [h1]; rfl, rfl⟩
    · go_wp2_with fail
      go_meet
      exact ⟨by rw [h1]; rfl, rfl⟩
  case rest =>
  obtain ⟨rfl, rfl⟩ := hcut
  obtain ⟨W6, rfl⟩ : ∃ W6 : World, W6 = wc := ⟨_, rfl⟩
  have hlt6 : W5.heap.size < W6.heap.size := by have := S6.out; omega
  go_upto_if 97 with fail
  go_cut [97] (fun s97 wc => ∃ (HL : List Hz) (hvp : Option Addr) (hvc : Nat), (cd ≠ 0 → HL = []) ∧ (∀ h ∈ HL, badHit h = false) ∧ HL.length ≤ 1 ∧ wc.cell? ⟨b, 0, none⟩ = some (.int .i64 z) ∧ wc.heap[W5.heap.size]? = some (.cells #[.int .u8 10, .int .u64 0, .int .u64 0, .int .u64 0, .int .u64 0, .int .u64 0, .int .u64 1, .int .u64 0, .int .i64 0, .int .i64 0, .int .i64 cd, .int .i64 0, .slice none 0 0, .slice none 0 0, .slice none 0 0, .slice hvp HL.length hvc] 37 (0, 0)) ∧ Below w3.heap.size w3 wc ∧ HitsF wc (fun k => w3.heap.size ≤ k ∧ k < wc.heap.size) (.slice hvp HL.length hvc) HL)
  case first =>
    cases h1 : (rightB vz && (cd == 0))
    · go_wp2_with fail
      go_meet
      exact ⟨[], none, 0, fun _ => rfl, fun h hh => absurd hh (by simp), by simp, c0, Y6.out, B36.out, HitsF.nil _ _⟩
    · have f15 := thawed Y6.out 15
      have x15 := cells_get Y6.out 15
      rw [Bool.and_eq_true] at h1
      have HH := Lib.hid h1
      clear h1
      go_wp2_with fail
      obtain ⟨v0, hv0⟩ : ∃ v, v = Value.slice (some ⟨W6.heap.size, 0, none⟩) 1 1 := ⟨_, rfl⟩
      obtain ⟨W7, hW7⟩ : ∃ W7, W7 = (W6.setCell ⟨W5.heap.size, 15, none⟩ v0).alloc (.cells #[.int .u64 i, .int .u64 0, .slice (some ⟨g5, 0, none⟩) 2 c5] 40) := ⟨_, rfl⟩
      rw [← hv0, ← hW7]
      have hsz : (W6.setCell ⟨W5.heap.size, 15, none⟩ v0).heap.size = W6.heap.size := by simp [World.setCell]
      have h35 : w3.heap.size ≤ W5.heap.size := Nat.le_trans B34.out.size O5.out.2.size
      have hb7 : Below w3.heap.size w3 W7 := by rw [hW7]; exact (B36.out.setCell (p := ⟨W5.heap.size, 15, none⟩) h35 _).alloc (by rw [hsz]; exact B36.out.size) _
      have hy7 := (congrArg (fun W : World => W.heap[W5.heap.size]?) hW7).trans ((heap_alloc_old _ _ (by rw [hsz]; exact hlt6)).trans (set_block Y6.out 15 v0))
      have hc7 : W7.cell? ⟨b, 0, none⟩ = some (.int .i64 z) := by
        have hne : b ≠ W5.heap.size := by omega
        have hlb : b < W6.heap.size := by omega
        rw [World.cell?_of_block (show W7.heap[b]? = W6.heap[b]? by rw [hW7, heap_alloc_old _ _ (by rw [hsz]; exact hlb), set_other rfl hne])]
        exact c0
      have hsb7 := hb7.size
      have own7 : W7.ownsRow W4.heap.size 21 1 (.slice (some ⟨g5, 0, none⟩) 2 c5) 2 (vz.map (Value.int .i32)) := by
        rw [hW7]
        exact (OW6.out.1.kept (grownBy_setCells W5.heap.size [v0] 15 W6) (.inr (by
          intro e
          have e2 : g5 = W5.heap.size := by simpa [Value.ownBlock] using e
          have := OW6.out.2.2
          omega))).alloc _
      have h34 : w3.heap.size ≤ W4.heap.size := B34.out.size
      have hh7 : HitsF W7 (fun k => w3.heap.size ≤ k ∧ k < W7.heap.size) v0 [⟨i, 0, vz⟩] := by
        have ho := own_fresh (W6.setCell ⟨W5.heap.size, 15, none⟩ v0) 40 3 1 #[.int .u64 i, .int .u64 0, .slice (some ⟨g5, 0, none⟩) 2 c5] rfl (by decide)
        rw [hsz, ← hv0, ← hW7] at ho
        refine HitsF.of_own (rs := [⟨i, 0, .slice (some ⟨g5, 0, none⟩) 2 c5⟩]) ho (fun k e => ?_) (Rows3.single (h := ⟨i, 0, vz⟩) (Nums.of_own own7) (fun _ k e => ?_))
        · have := ho.lt k e; omega
        · have := own7.lt k e; omega
      rw [hv0] at hh7 hy7
      go_meet
      refine ⟨[⟨i, 0, vz⟩], _, _, fun h => absurd (by simpa using HH.out.2) h, fun h hh => ?_, by simp, hc7, hy7, hb7, hh7⟩
      rw [List.mem_singleton.1 hh]
      simp [badHit, HH.out.1, hi1.2]
  case rest =>
  obtain ⟨HL, hvp, hvc, hl1, hl2, hl3, hc7, hy7, hb7, hh7⟩ := hcut
  obtain ⟨W7, rfl⟩ : ∃ W7 : World, W7 = wc := ⟨_, rfl⟩
  have HLB := Lib.hid (And.intro hl1 (And.intro hl2 hl3))
  have h35 : w3.heap.size ≤ W5.heap.size := Nat.le_trans B34.out.size O5.out.2.size
  clear hl1 hl2 hl3
  have C7 := Lib.hid (And.intro hc7 (And.intro hy7 (And.intro hb7 hh7)))
  clear hc7 hy7 hb7 hh7
  obtain ⟨W8, hW8⟩ : ∃ W8, W8 = W7.drew := ⟨_, rfl⟩
  have b8 : Below W7.heap.size W7 W8 := by rw [hW8]; exact (Below.refl _ _).drew
  have B38 := Lib.hid (C7.out.2.2.1.trans (b8.mono C7.out.2.2.1.size))
  have B8 := Lib.hid (B3.out.trans (B38.out.mono B3.out.size))
  have hc8 := below_cells b8 C7.out.1
  have hy8 := (b8.block _ (lt_block C7.out.2.1)).trans C7.out.2.1
  have NV : NoteV W8 (fun k => w3.heap.size ≤ k ∧ k < W8.heap.size) (nGS cd HL) (.slice none 0 0) (.slice none 0 0) (.slice none 0 0) (.slice hvp HL.length hvc) := ⟨Nums.nil _ _, RecsF.nil _ _, Nums.nil _ _, (C7.out.2.2.2.below b8).mono fun k h => ⟨h.1, Nat.lt_of_lt_of_le h.2 b8.size⟩⟩
  have hz : 1 + homeZ i n = z := by rw [HZ.out.1, HZ.out.2]
  have HC0 := hearT w.heap.size c F3 R3 _ (gG n i) (nGS cd HL) (.slice none 0 0) (.slice none 0 0) (.slice none 0 0) (.slice hvp HL.length hvc) (1 + homeZ i n) W8 (TT.out.below B8.out) (G3.out.below B38.out) B8.out.size (ok_get n i hn1 hi1) NV (by simp [nGS]) ⟨by simp [nGS], by simp [nGS], by simp [nGS], show HL.length ≤ 1000000 by have := HLB.out.2.2; omega⟩ (fun k h => ⟨h.2, fun hf => by have := (G3.out.low k hf).2; omega⟩) (get_hear n i cd HL hn1 CD.out.2 (by have := HLB.out.2.2; omega) HLB.out.2.1 HLB.out.1)
  rw [hz] at HC0
  have HC : Hid (Calls Tryd.prog 13 #[.pointer (some ⟨c, 0, none⟩), .int .i64 z, .agg #[.int .u8 10, .int .u64 0, .int .u64 0, .int .u64 0, .int .u64 0, .int .u64 0, .int .u64 1, .int .u64 0, .int .i64 0, .int .i64 0, .int .i64 cd, .int .i64 0, .slice none 0 0, .slice none 0 0, .slice none 0 0, .slice hvp HL.length hvc]] W8 (GTold W8 w.heap.size c F3 R3 (fun k => w3.heap.size ≤ k ∧ k < W8.heap.size) [(5, resN 7 3 cd HL)] ⟨n, 2, 1, []⟩)) := Lib.hid HC0
  have NV8 := Lib.hid NV.hits
  have HY := Lib.hid hy8
  have hbb := Lib.hid (Nat.lt_of_lt_of_le hbl B38.out.size)
  have HW := Lib.hid hW8
  have hq : W8.cell? ⟨b, 0, none⟩ = some (.int .i64 z) ∧ W8.cell? ⟨W5.heap.size, 0, none⟩ = some (.int .u8 10) ∧ W8.cell? ⟨W5.heap.size, 1, none⟩ = some (.int .u64 0) ∧ W8.cell? ⟨W5.heap.size, 2, none⟩ = some (.int .u64 0) ∧ W8.cell? ⟨W5.heap.size, 3, none⟩ = some (.int .u64 0) ∧ W8.cell? ⟨W5.heap.size, 4, none⟩ = some (.int .u64 0) ∧ W8.cell? ⟨W5.heap.size, 5, none⟩ = some (.int .u64 0) ∧ W8.cell? ⟨W5.heap.size, 6, none⟩ = some (.int .u64 1) ∧ W8.cell? ⟨W5.heap.size, 7, none⟩ = some (.int .u64 0) ∧ W8.cell? ⟨W5.heap.size, 8, none⟩ = some (.int .i64 0) ∧ W8.cell? ⟨W5.heap.size, 9, none⟩ = some (.int .i64 0) ∧ W8.cell? ⟨W5.heap.size, 10, none⟩ = some (.int .i64 cd) ∧ W8.cell? ⟨W5.heap.size, 11, none⟩ = some (.int .i64 0) ∧ W8.cell? ⟨W5.heap.size, 12, none⟩ = some (.slice none 0 0) ∧ W8.cell? ⟨W5.heap.size, 13, none⟩ = some (.slice none 0 0) ∧ W8.cell? ⟨W5.heap.size, 14, none⟩ = some (.slice none 0 0) ∧ W8.cell? ⟨W5.heap.size, 15, none⟩ = some (.slice hvp HL.length hvc) := ⟨hc8, cells_get hy8 0, cells_get hy8 1, cells_get hy8 2, cells_get hy8 3, cells_get hy8 4, cells_get hy8 5, cells_get hy8 6, cells_get hy8 7, cells_get hy8 8, cells_get hy8 9, cells_get hy8 10, cells_get hy8 11, cells_get hy8 12, cells_get hy8 13, cells_get hy8 14, cells_get hy8 15⟩
  have HQ := Lib.hid hq
  clear hW8 b8 hy8 hc8 NV hz HC0
  have h35' : w3.heap.size ≤ W5.heap.size := h35
  go_wp2_with fail
  refine region_goH (fun w' => w'.cell? ⟨b, 0, none⟩ = some (.int .i64 z) ∧ w'.cell? ⟨W5.heap.size, 0, none⟩ = some (.int .u8 10) ∧ w'.cell? ⟨W5.heap.size, 1, none⟩ = some (.int .u64 0) ∧ w'.cell? ⟨W5.heap.size, 2, none⟩ = some (.int .u64 0) ∧ w'.cell? ⟨W5.heap.size, 3, none⟩ = some (.int .u64 0) ∧ w'.cell? ⟨W5.heap.size, 4, none⟩ = some (.int .u64 0) ∧ w'.cell? ⟨W5.heap.size, 5, none⟩ = some (.int .u64 0) ∧ w'.cell? ⟨W5.heap.size, 6, none⟩ = some (.int .u64 1) ∧ w'.cell? ⟨W5.heap.size, 7, none⟩ = some (.int .u64 0) ∧ w'.cell? ⟨W5.heap.size, 8, none⟩ = some (.int .i64 0) ∧ w'.cell? ⟨W5.heap.size, 9, none⟩ = some (.int .i64 0) ∧ w'.cell? ⟨W5.heap.size, 10, none⟩ = some (.int .i64 cd) ∧ w'.cell? ⟨W5.heap.size, 11, none⟩ = some (.int .i64 0) ∧ w'.cell? ⟨W5.heap.size, 12, none⟩ = some (.slice none 0 0) ∧ w'.cell? ⟨W5.heap.size, 13, none⟩ = some (.slice none 0 0) ∧ w'.cell? ⟨W5.heap.size, 14, none⟩ = some (.slice none 0 0) ∧ w'.cell? ⟨W5.heap.size, 15, none⟩ = some (.slice hvp HL.length hvc)) 8 (by kernel_rfl) rfl ?hS0 (fun O hO hH => ?_)
  case hS0 =>
    rw [← HW.out]; exact HQ.out
  rw [← HW.out] at hH ⊢
  refine tkYH (v := ?_) 0 hO hH rfl (fun _ _ _ h => h) ?hc ?hw ?hy ?_
  case hc => decide +kernel
  case hw => rfl
  case hy => (intro w hS; (try dsimp only at hS); go_simp; try with_reducible rfl)
  (try simp only [Act.put]); (repeat (first | simp only [List.setIfInBounds_toArray] | simp only [List.set_cons_zero] | simp only [List.set_cons_succ]))
  refine tkYH (v := ?_) 1 hO hH rfl (fun _ _ _ h => h) ?hc ?hw ?hy ?_
  case hc => decide +kernel
  case hw => rfl
  case hy => (intro w hS; (try dsimp only at hS); go_simp; try with_reducible rfl)
  (try simp only [Act.put]); (repeat (first | simp only [List.setIfInBounds_toArray] | simp only [List.set_cons_zero] | simp only [List.set_cons_succ]))
  refine tkYH (v := ?_) 2 hO hH rfl (fun _ _ _ h => h) ?hc ?hw ?hy ?_
  case hc => decide +kernel
  case hw => rfl
  case hy => (intro w hS; (try dsimp only at hS); go_simp; try with_reducible rfl)
  (try simp only [Act.put]); (repeat (first | simp only [List.setIfInBounds_toArray] | simp only [List.set_cons_zero] | simp only [List.set_cons_succ]))
  refine tkYH (v := ?_) 3 hO hH rfl (fun _ _ _ h => h) ?hc ?hw ?hy ?_
  case hc => decide +kernel
  case hw => rfl
  case hy => (intro w hS; (try dsimp only at hS); go_simp; try with_reducible rfl)
  (try simp only [Act.put]); (repeat (first | simp only [List.setIfInBounds_toArray] | simp only [List.set_cons_zero] | simp only [List.set_cons_succ]))
  refine tkYH (v := ?_) 4 hO hH rfl (fun _ _ _ h => h) ?hc ?hw ?hy ?_
  case hc => decide +kernel
  case hw => rfl
  case hy => (intro w hS; (try dsimp only at hS); go_simp; try with_reducible rfl)
  (try simp only [Act.put]); (repeat (first | simp only [List.setIfInBounds_toArray] | simp only [List.set_cons_zero] | simp only [List.set_cons_succ]))
  refine tkYH (v := ?_) 5 hO hH rfl (fun _ _ _ h => h) ?hc ?hw ?hy ?_
  case hc => decide +kernel
  case hw => rfl
  case hy => (intro w hS; (try dsimp only at hS); go_simp; try with_reducible rfl)
  (try simp only [Act.put]); (repeat (first | simp only [List.setIfInBounds_toArray] | simp only [List.set_cons_zero] | simp only [List.set_cons_succ]))
  refine spkH 6 hO rfl ?hr ?hw (fun K' hK => ?_)
  case hr => decide +kernel
  case hw => rfl
  go_simp
  with_reducible refine HC.out.mono ?_
  rintro e w9 ⟨v9, rs9, G9, F9, R9, rfl, ho9, hs9, hm9, hlt9, -, hG9, hmd9, -, -⟩
  have kb : w9.heap[b]? = W8.heap[b]? := hmd9.block b hbb.out NF.out
  have ks : w9.heap[W5.heap.size]? = W8.heap[W5.heap.size]? := hmd9.block _ (lt_block HY.out) (fun hf => by have := (G3.out.low _ hf).2; omega)
  have S9 := Lib.hid (show w9.cell? ⟨b, 0, none⟩ = some (.int .i64 z) ∧ w9.cell? ⟨W5.heap.size, 0, none⟩ = some (.int .u8 10) ∧ w9.cell? ⟨W5.heap.size, 1, none⟩ = some (.int .u64 0) ∧ w9.cell? ⟨W5.heap.size, 2, none⟩ = some (.int .u64 0) ∧ w9.cell? ⟨W5.heap.size, 3, none⟩ = some (.int .u64 0) ∧ w9.cell? ⟨W5.heap.size, 4, none⟩ = some (.int .u64 0) ∧ w9.cell? ⟨W5.heap.size, 5, none⟩ = some (.int .u64 0) ∧ w9.cell? ⟨W5.heap.size, 6, none⟩ = some (.int .u64 1) ∧ w9.cell? ⟨W5.heap.size, 7, none⟩ = some (.int .u64 0) ∧ w9.cell? ⟨W5.heap.size, 8, none⟩ = some (.int .i64 0) ∧ w9.cell? ⟨W5.heap.size, 9, none⟩ = some (.int .i64 0) ∧ w9.cell? ⟨W5.heap.size, 10, none⟩ = some (.int .i64 cd) ∧ w9.cell? ⟨W5.heap.size, 11, none⟩ = some (.int .i64 0) ∧ w9.cell? ⟨W5.heap.size, 12, none⟩ = some (.slice none 0 0) ∧ w9.cell? ⟨W5.heap.size, 13, none⟩ = some (.slice none 0 0) ∧ w9.cell? ⟨W5.heap.size, 14, none⟩ = some (.slice none 0 0) ∧ w9.cell? ⟨W5.heap.size, 15, none⟩ = some (.slice hvp HL.length hvc) from ⟨(World.cell?_of_block kb).trans HQ.out.1, (World.cell?_of_block ks).trans HQ.out.2.1, (World.cell?_of_block ks).trans HQ.out.2.2.1, (World.cell?_of_block ks).trans HQ.out.2.2.2.1, (World.cell?_of_block ks).trans HQ.out.2.2.2.2.1, (World.cell?_of_block ks).trans HQ.out.2.2.2.2.2.1, (World.cell?_of_block ks).trans HQ.out.2.2.2.2.2.2.1, (World.cell?_of_block ks).trans HQ.out.2.2.2.2.2.2.2.1, (World.cell?_of_block ks).trans HQ.out.2.2.2.2.2.2.2.2.1, (World.cell?_of_block ks).trans HQ.out.2.2.2.2.2.2.2.2.2.1, (World.cell?_of_block ks).trans HQ.out.2.2.2.2.2.2.2.2.2.2.1, (World.cell?_of_block ks).trans HQ.out.2.2.2.2.2.2.2.2.2.2.2.1, (World.cell?_of_block ks).trans HQ.out.2.2.2.2.2.2.2.2.2.2.2.2.1, (World.cell?_of_block ks).trans HQ.out.2.2.2.2.2.2.2.2.2.2.2.2.2.1, (World.cell?_of_block ks).trans HQ.out.2.2.2.2.2.2.2.2.2.2.2.2.2.2.1, (World.cell?_of_block ks).trans HQ.out.2.2.2.2.2.2.2.2.2.2.2.2.2.2.2.1, (World.cell?_of_block ks).trans HQ.out.2.2.2.2.2.2.2.2.2.2.2.2.2.2.2.2⟩)
  have HA := Lib.hid (show HitsF w9 (fun k => w3.heap.size ≤ k ∧ k < W8.heap.size) (.slice hvp HL.length hvc) HL from NV8.out.agree (Agree.of_mod hmd9 (fun k h => h.2) (fun k h hf => by have := (G3.out.low k hf).2; omega)))
  have M9 := Lib.hid (And.intro ho9 (And.intro hs9 (And.intro hm9 hlt9)))
  have Gd := Lib.hid (show GHas w9 w.heap.size c ⟨n, 2, 1, []⟩ from ⟨_, _, hG9⟩)
  have B9 := Lib.hid (B8.out.trans (hmd9.below (B := w.heap.size) B8.out.size (fun k h => (G3.out.low k h).1)))
  clear ho9 hs9 hm9 hlt9 hG9 hmd9 kb ks
  try dsimp only
  refine hK.out _ _ ?hS (fun hH' => ?_)
  case hS =>
    exact S9.out
  clear hK K' hH; have hH := hH'; clear hH'; (try simp only [Act.put]); (repeat (first | simp only [List.setIfInBounds_toArray] | simp only [List.set_cons_zero] | simp only [List.set_cons_succ]))
  refine tkYH (v := ?_) 7 hO hH rfl (fun _ _ _ h => h) ?hc ?hw ?hy ?_
  case hc => decide +kernel
  case hw => rfl
  case hy => (intro w hS; (try dsimp only at hS); go_simp; try with_reducible rfl)
  (try simp only [Act.put]); (repeat (first | simp only [List.setIfInBounds_toArray] | simp only [List.set_cons_zero] | simp only [List.set_cons_succ]))
  refine doneH hO (by decide +kernel) ?_
  clear hO
  clear hH
  go_wp2_with fail
  obtain ⟨ho9, hs9, hm9, hlt9⟩ := M9.out
  obtain ⟨f1, f2, f3, f4, rs10, rfl, hs10⟩ := says_cons hs9
  obtain rfl := says_nil hs10
  obtain ⟨q9, m9, k9, rfl⟩ := own_form ho9
  obtain ⟨b9, rfl, rfl, -, -, hc9⟩ := mails_at ho9 (by simp)
  have hm9' : HitsF w9 G9 f4 HL := (hm9 _ (List.mem_singleton.2 rfl)).read.hits
  have hm9c := hm9'
  obtain ⟨hp, hcp, rfl, -⟩ := hm9c
  obtain ⟨W10, hW10⟩ : ∃ W10, W10 = w9.drew := ⟨_, rfl⟩
  have b10 : Below w9.heap.size w9 W10 := by rw [hW10]; exact (Below.refl _ _).drew
  have d0 : W10.cell? ⟨b9, 0, none⟩ = some (.int .i64 5) := below_cells b10 (hc9 0 0 _ (by simp) rfl)
  have d1 : W10.cell? ⟨b9, 1, none⟩ = some (.int .u8 11) := below_cells b10 (hc9 0 1 _ (by simp) rfl)
  have d4 : W10.cell? ⟨b9, 4, none⟩ = some (.int .u64 7) := below_cells b10 (hc9 0 4 _ (by simp) rfl)
  have d7 : W10.cell? ⟨b9, 7, none⟩ = some (.int .u64 3) := below_cells b10 (hc9 0 7 _ (by simp) rfl)
  have d11 : W10.cell? ⟨b9, 11, none⟩ = some (.int .i64 cd) := below_cells b10 (hc9 0 11 _ (by simp) rfl)
  have d16 : W10.cell? ⟨b9, 16, none⟩ = some (.slice hp HL.length hcp) := below_cells b10 (hc9 0 16 _ (by simp) rfl)
  have s10 : W10.cell? ⟨W5.heap.size, 10, none⟩ = some (.int .i64 cd) := below_cells b10 S9.out.2.2.2.2.2.2.2.2.2.2.2.1
  have s15 : W10.cell? ⟨W5.heap.size, 15, none⟩ = some (.slice hvp HL.length hvc) := below_cells b10 S9.out.2.2.2.2.2.2.2.2.2.2.2.2.2.2.2.2
  have SH := Lib.hid (show Calls Tryd.prog 14 #[.slice hp HL.length hcp, .slice hvp HL.length hvc] W10 _ from sameHits _ _ HL HL _ _ W10 (hm9'.below b10) (HA.out.below b10))
  have G10 := Lib.hid (Gd.out.below b10)
  have B10 := Lib.hid (B9.out.trans (b10.mono B9.out.size))
  have HW10 := Lib.hid hW10
  clear ho9 hs9 hm9 hlt9 hc9 hs10 hm9' hW10 b10
  refine region_goH (fun w' => w'.cell? ⟨b9, 0, none⟩ = some (.int .i64 5) ∧ w'.cell? ⟨b9, 1, none⟩ = some (.int .u8 11) ∧ w'.cell? ⟨b9, 4, none⟩ = some (.int .u64 7) ∧ w'.cell? ⟨b9, 7, none⟩ = some (.int .u64 3) ∧ w'.cell? ⟨b9, 11, none⟩ = some (.int .i64 cd) ∧ w'.cell? ⟨b9, 16, none⟩ = some (.slice hp HL.length hcp) ∧ w'.cell? ⟨W5.heap.size, 10, none⟩ = some (.int .i64 cd) ∧ w'.cell? ⟨W5.heap.size, 15, none⟩ = some (.slice hvp HL.length hvc)) 60 (by kernel_rfl) rfl ?hS0 (fun O hO hH => ?_)
  case hS0 =>
    rw [← HW10.out]; exact ⟨d0, d1, d4, d7, d11, d16, s10, s15⟩
  rw [← HW10.out] at hH ⊢
  refine tkYH (v := ?_) 0 hO hH rfl (fun _ _ _ h => h) ?hc ?hw ?hy ?_
  case hc => decide +kernel
  case hw => rfl
  case hy => (intro w hS; (try dsimp only at hS); go_simp; try with_reducible rfl)
  (try simp only [Act.put]); (repeat (first | simp only [List.setIfInBounds_toArray] | simp only [List.set_cons_zero] | simp only [List.set_cons_succ]))
  refine tkYH (v := ?_) 1 hO hH rfl (fun _ _ _ h => h) ?hc ?hw ?hy ?_
  case hc => decide +kernel
  case hw => rfl
  case hy => (intro w hS; (try dsimp only at hS); go_simp; try with_reducible rfl)
  (try simp only [Act.put]); (repeat (first | simp only [List.setIfInBounds_toArray] | simp only [List.set_cons_zero] | simp only [List.set_cons_succ]))
  refine tkYH (v := ?_) 2 hO hH rfl (fun _ _ _ h => h) ?hc ?hw ?hy ?_
  case hc => decide +kernel
  case hw => rfl
  case hy => (intro w hS; (try dsimp only at hS); go_simp; try with_reducible rfl)
  (try simp only [Act.put]); (repeat (first | simp only [List.setIfInBounds_toArray] | simp only [List.set_cons_zero] | simp only [List.set_cons_succ]))
  refine tkYH (v := ?_) 3 hO hH rfl (fun _ _ _ h => h) ?hc ?hw ?hy ?_
  case hc => decide +kernel
  case hw => rfl
  case hy => (intro w hS; (try dsimp only at hS); go_simp; try with_reducible rfl)
  (try simp only [Act.put]); (repeat (first | simp only [List.setIfInBounds_toArray] | simp only [List.set_cons_zero] | simp only [List.set_cons_succ]))
  refine tkYH (v := ?_) 4 hO hH rfl (fun _ _ _ h => h) ?hc ?hw ?hy ?_
  case hc => decide +kernel
  case hw => rfl
  case hy => (intro w hS; (try dsimp only at hS); go_simp; try with_reducible rfl)
  (try simp only [Act.put]); (repeat (first | simp only [List.setIfInBounds_toArray] | simp only [List.set_cons_zero] | simp only [List.set_cons_succ]))
  refine tkYH (v := ?_) 5 hO hH rfl (fun _ _ _ h => h) ?hc ?hw ?hy ?_
  case hc => decide +kernel
  case hw => rfl
  case hy => (intro w hS; (try dsimp only at hS); go_simp; try with_reducible rfl)
  (try simp only [Act.put]); (repeat (first | simp only [List.setIfInBounds_toArray] | simp only [List.set_cons_zero] | simp only [List.set_cons_succ]))
  refine tkYH (v := ?_) 6 hO hH rfl (fun _ _ _ h => h) ?hc ?hw ?hy ?_
  case hc => decide +kernel
  case hw => rfl
  case hy => (intro w hS; (try dsimp only at hS); go_simp; try with_reducible rfl)
  (try simp only [Act.put]); (repeat (first | simp only [List.setIfInBounds_toArray] | simp only [List.set_cons_zero] | simp only [List.set_cons_succ]))
  refine tkYH (v := ?_) 7 hO hH rfl (fun _ _ _ h => h) ?hc ?hw ?hy ?_
  case hc => decide +kernel
  case hw => rfl
  case hy => (intro w hS; (try dsimp only at hS); go_simp; try with_reducible rfl)
  (try simp only [Act.put]); (repeat (first | simp only [List.setIfInBounds_toArray] | simp only [List.set_cons_zero] | simp only [List.set_cons_succ]))
  refine tkYH (v := ?_) 8 hO hH rfl (fun _ _ _ h => h) ?hc ?hw ?hy ?_
  case hc => decide +kernel
  case hw => rfl
  case hy => (intro w hS; (try dsimp only at hS); go_simp; try with_reducible rfl)
  (try simp only [Act.put]); (repeat (first | simp only [List.setIfInBounds_toArray] | simp only [List.set_cons_zero] | simp only [List.set_cons_succ]))
  refine tkYH (v := ?_) 9 hO hH rfl (fun _ _ _ h => h) ?hc ?hw ?hy ?_
  case hc => decide +kernel
  case hw => rfl
  case hy => (intro w hS; (try dsimp only at hS); go_simp; try with_reducible rfl)
  (try simp only [Act.put]); (repeat (first | simp only [List.setIfInBounds_toArray] | simp only [List.set_cons_zero] | simp only [List.set_cons_succ]))
  refine tkYH (v := ?_) 10 hO hH rfl (fun _ _ _ h => h) ?hc ?hw ?hy ?_
  case hc => decide +kernel
  case hw => rfl
  case hy => (intro w hS; (try dsimp only at hS); go_simp; try with_reducible rfl)
  (try simp only [Act.put]); (repeat (first | simp only [List.setIfInBounds_toArray] | simp only [List.set_cons_zero] | simp only [List.set_cons_succ]))
  refine tkYH (v := ?_) 11 hO hH rfl (fun _ _ _ h => h) ?hc ?hw ?hy ?_
  case hc => decide +kernel
  case hw => rfl
  case hy => (intro w hS; (try dsimp only at hS); go_simp; try with_reducible rfl)
  (try simp only [Act.put]); (repeat (first | simp only [List.setIfInBounds_toArray] | simp only [List.set_cons_zero] | simp only [List.set_cons_succ]))
  refine tkYH (v := ?_) 12 hO hH rfl (fun _ _ _ h => h) ?hc ?hw ?hy ?_
  case hc => decide +kernel
  case hw => rfl
  case hy => (intro w hS; (try dsimp only at hS); go_simp; try with_reducible rfl)
  (try simp only [Act.put]); (repeat (first | simp only [List.setIfInBounds_toArray] | simp only [List.set_cons_zero] | simp only [List.set_cons_succ]))
  refine tkYH (v := ?_) 13 hO hH rfl (fun _ _ _ h => h) ?hc ?hw ?hy ?_
  case hc => decide +kernel
  case hw => rfl
  case hy => (intro w hS; (try dsimp only at hS); go_simp; try with_reducible rfl)
  (try simp only [Act.put]); (repeat (first | simp only [List.setIfInBounds_toArray] | simp only [List.set_cons_zero] | simp only [List.set_cons_succ]))
  refine tkYH (v := ?_) 14 hO hH rfl (fun _ _ _ h => h) ?hc ?hw ?hy ?_
  case hc => decide +kernel
  case hw => rfl
  case hy => (intro w hS; (try dsimp only at hS); go_simp; try with_reducible rfl)
  (try simp only [Act.put]); (repeat (first | simp only [List.setIfInBounds_toArray] | simp only [List.set_cons_zero] | simp only [List.set_cons_succ]))
  refine tkYH (v := ?_) 15 hO hH rfl (fun _ _ _ h => h) ?hc ?hw ?hy ?_
  case hc => decide +kernel
  case hw => rfl
  case hy => (intro w hS; (try dsimp only at hS); go_simp; try with_reducible rfl)
  (try simp only [Act.put]); (repeat (first | simp only [List.setIfInBounds_toArray] | simp only [List.set_cons_zero] | simp only [List.set_cons_succ]))
  refine tkYH (v := ?_) 16 hO hH rfl (fun _ _ _ h => h) ?hc ?hw ?hy ?_
  case hc => decide +kernel
  case hw => rfl
  case hy => (intro w hS; (try dsimp only at hS); go_simp; try with_reducible rfl)
  (try simp only [Act.put]); (repeat (first | simp only [List.setIfInBounds_toArray] | simp only [List.set_cons_zero] | simp only [List.set_cons_succ]))
  refine tkYH (v := ?_) 17 hO hH rfl (fun _ _ _ h => h) ?hc ?hw ?hy ?_
  case hc => decide +kernel
  case hw => rfl
  case hy => (intro w hS; (try dsimp only at hS); go_simp; try with_reducible rfl)
  (try simp only [Act.put]); (repeat (first | simp only [List.setIfInBounds_toArray] | simp only [List.set_cons_zero] | simp only [List.set_cons_succ]))
  refine tkYH (v := ?_) 18 hO hH rfl (fun _ _ _ h => h) ?hc ?hw ?hy ?_
  case hc => decide +kernel
  case hw => rfl
  case hy => (intro w hS; (try dsimp only at hS); go_simp; try with_reducible rfl)
  (try simp only [Act.put]); (repeat (first | simp only [List.setIfInBounds_toArray] | simp only [List.set_cons_zero] | simp only [List.set_cons_succ]))
  refine tkYH (v := ?_) 19 hO hH rfl (fun _ _ _ h => h) ?hc ?hw ?hy ?_
  case hc => decide +kernel
  case hw => rfl
  case hy => (intro w hS; (try dsimp only at hS); go_simp; try with_reducible rfl)
  (try simp only [Act.put]); (repeat (first | simp only [List.setIfInBounds_toArray] | simp only [List.set_cons_zero] | simp only [List.set_cons_succ]))
  refine tkYH (v := ?_) 20 hO hH rfl (fun _ _ _ h => h) ?hc ?hw ?hy ?_
  case hc => decide +kernel
  case hw => rfl
  case hy => (intro w hS; (try dsimp only at hS); go_simp; try with_reducible rfl)
  (try simp only [Act.put]); (repeat (first | simp only [List.setIfInBounds_toArray] | simp only [List.set_cons_zero] | simp only [List.set_cons_succ]))
  refine tkYH (v := ?_) 21 hO hH rfl (fun _ _ _ h => h) ?hc ?hw ?hy ?_
  case hc => decide +kernel
  case hw => rfl
  case hy => (intro w hS; (try dsimp only at hS); go_simp; try with_reducible rfl)
  (try simp only [Act.put]); (repeat (first | simp only [List.setIfInBounds_toArray] | simp only [List.set_cons_zero] | simp only [List.set_cons_succ]))
  refine tkYH (v := ?_) 22 hO hH rfl (fun _ _ _ h => h) ?hc ?hw ?hy ?_
  case hc => decide +kernel
  case hw => rfl
  case hy => (intro w hS; (try dsimp only at hS); go_simp; try with_reducible rfl)
  (try simp only [Act.put]); (repeat (first | simp only [List.setIfInBounds_toArray] | simp only [List.set_cons_zero] | simp only [List.set_cons_succ]))
  refine tkYH (v := ?_) 23 hO hH rfl (fun _ _ _ h => h) ?hc ?hw ?hy ?_
  case hc => decide +kernel
  case hw => rfl
  case hy => (intro w hS; (try dsimp only at hS); go_simp; try with_reducible rfl)
  (try simp only [Act.put]); (repeat (first | simp only [List.setIfInBounds_toArray] | simp only [List.set_cons_zero] | simp only [List.set_cons_succ]))
  refine tkYH (v := ?_) 24 hO hH rfl (fun _ _ _ h => h) ?hc ?hw ?hy ?_
  case hc => decide +kernel
  case hw => rfl
  case hy => (intro w hS; (try dsimp only at hS); go_simp; try with_reducible rfl)
  (try simp only [Act.put]); (repeat (first | simp only [List.setIfInBounds_toArray] | simp only [List.set_cons_zero] | simp only [List.set_cons_succ]))
  refine tkYH (v := ?_) 25 hO hH rfl (fun _ _ _ h => h) ?hc ?hw ?hy ?_
  case hc => decide +kernel
  case hw => rfl
  case hy => (intro w hS; (try dsimp only at hS); go_simp; try with_reducible rfl)
  (try simp only [Act.put]); (repeat (first | simp only [List.setIfInBounds_toArray] | simp only [List.set_cons_zero] | simp only [List.set_cons_succ]))
  refine tkYH (v := ?_) 26 hO hH rfl (fun _ _ _ h => h) ?hc ?hw ?hy ?_
  case hc => decide +kernel
  case hw => rfl
  case hy => (intro w hS; (try dsimp only at hS); go_simp; try with_reducible rfl)
  (try simp only [Act.put]); (repeat (first | simp only [List.setIfInBounds_toArray] | simp only [List.set_cons_zero] | simp only [List.set_cons_succ]))
  refine tkYH (v := ?_) 27 hO hH rfl (fun _ _ _ h => h) ?hc ?hw ?hy ?_
  case hc => decide +kernel
  case hw => rfl
  case hy => (intro w hS; (try dsimp only at hS); go_simp; try with_reducible rfl)
  (try simp only [Act.put]); (repeat (first | simp only [List.setIfInBounds_toArray] | simp only [List.set_cons_zero] | simp only [List.set_cons_succ]))
  refine tkYH (v := ?_) 28 hO hH rfl (fun _ _ _ h => h) ?hc ?hw ?hy ?_
  case hc => decide +kernel
  case hw => rfl
  case hy => (intro w hS; (try dsimp only at hS); go_simp; try with_reducible rfl)
  (try simp only [Act.put]); (repeat (first | simp only [List.setIfInBounds_toArray] | simp only [List.set_cons_zero] | simp only [List.set_cons_succ]))
  refine tkYH (v := ?_) 29 hO hH rfl (fun _ _ _ h => h) ?hc ?hw ?hy ?_
  case hc => decide +kernel
  case hw => rfl
  case hy => (intro w hS; (try dsimp only at hS); go_simp; try with_reducible rfl)
  (try simp only [Act.put]); (repeat (first | simp only [List.setIfInBounds_toArray] | simp only [List.set_cons_zero] | simp only [List.set_cons_succ]))
  refine tkYH (v := ?_) 30 hO hH rfl (fun _ _ _ h => h) ?hc ?hw ?hy ?_
  case hc => decide +kernel
  case hw => rfl
  case hy => (intro w hS; (try dsimp only at hS); go_simp; try with_reducible rfl)
  (try simp only [Act.put]); (repeat (first | simp only [List.setIfInBounds_toArray] | simp only [List.set_cons_zero] | simp only [List.set_cons_succ]))
  refine tkYH (v := ?_) 31 hO hH rfl (fun _ _ _ h => h) ?hc ?hw ?hy ?_
  case hc => decide +kernel
  case hw => rfl
  case hy => (intro w hS; (try dsimp only at hS); go_simp; try with_reducible rfl)
  (try simp only [Act.put]); (repeat (first | simp only [List.setIfInBounds_toArray] | simp only [List.set_cons_zero] | simp only [List.set_cons_succ]))
  refine tkYH (v := ?_) 32 hO hH rfl (fun _ _ _ h => h) ?hc ?hw ?hy ?_
  case hc => decide +kernel
  case hw => rfl
  case hy => (intro w hS; (try dsimp only at hS); go_simp; try with_reducible rfl)
  (try simp only [Act.put]); (repeat (first | simp only [List.setIfInBounds_toArray] | simp only [List.set_cons_zero] | simp only [List.set_cons_succ]))
  refine tkYH (v := ?_) 33 hO hH rfl (fun _ _ _ h => h) ?hc ?hw ?hy ?_
  case hc => decide +kernel
  case hw => rfl
  case hy => (intro w hS; (try dsimp only at hS); go_simp; try with_reducible rfl)
  (try simp only [Act.put]); (repeat (first | simp only [List.setIfInBounds_toArray] | simp only [List.set_cons_zero] | simp only [List.set_cons_succ]))
  refine tkYH (v := ?_) 34 hO hH rfl (fun _ _ _ h => h) ?hc ?hw ?hy ?_
  case hc => decide +kernel
  case hw => rfl
  case hy => (intro w hS; (try dsimp only at hS); go_simp; try with_reducible rfl)
  (try simp only [Act.put]); (repeat (first | simp only [List.setIfInBounds_toArray] | simp only [List.set_cons_zero] | simp only [List.set_cons_succ]))
  refine tkYH (v := ?_) 35 hO hH rfl (fun _ _ _ h => h) ?hc ?hw ?hy ?_
  case hc => decide +kernel
  case hw => rfl
  case hy => (intro w hS; (try dsimp only at hS); go_simp; try with_reducible rfl)
  (try simp only [Act.put]); (repeat (first | simp only [List.setIfInBounds_toArray] | simp only [List.set_cons_zero] | simp only [List.set_cons_succ]))
  refine tkYH (v := ?_) 36 hO hH rfl (fun _ _ _ h => h) ?hc ?hw ?hy ?_
  case hc => decide +kernel
  case hw => rfl
  case hy => (intro w hS; (try dsimp only at hS); go_simp; try with_reducible rfl)
  (try simp only [Act.put]); (repeat (first | simp only [List.setIfInBounds_toArray] | simp only [List.set_cons_zero] | simp only [List.set_cons_succ]))
  refine tkYH (v := ?_) 37 hO hH rfl (fun _ _ _ h => h) ?hc ?hw ?hy ?_
  case hc => decide +kernel
  case hw => rfl
  case hy => (intro w hS; (try dsimp only at hS); go_simp; try with_reducible rfl)
  (try simp only [Act.put]); (repeat (first | simp only [List.setIfInBounds_toArray] | simp only [List.set_cons_zero] | simp only [List.set_cons_succ]))
  refine tkYH (v := ?_) 38 hO hH rfl (fun _ _ _ h => h) ?hc ?hw ?hy ?_
  case hc => decide +kernel
  case hw => rfl
  case hy => (intro w hS; (try dsimp only at hS); go_simp; try with_reducible rfl)
  (try simp only [Act.put]); (repeat (first | simp only [List.setIfInBounds_toArray] | simp only [List.set_cons_zero] | simp only [List.set_cons_succ]))
  refine tkYH (v := ?_) 39 hO hH rfl (fun _ _ _ h => h) ?hc ?hw ?hy ?_
  case hc => decide +kernel
  case hw => rfl
  case hy => (intro w hS; (try dsimp only at hS); go_simp; try with_reducible rfl)
  (try simp only [Act.put]); (repeat (first | simp only [List.setIfInBounds_toArray] | simp only [List.set_cons_zero] | simp only [List.set_cons_succ]))
  refine tkYH (v := ?_) 40 hO hH rfl (fun _ _ _ h => h) ?hc ?hw ?hy ?_
  case hc => decide +kernel
  case hw => rfl
  case hy => (intro w hS; (try dsimp only at hS); go_simp; try with_reducible rfl)
  (try simp only [Act.put]); (repeat (first | simp only [List.setIfInBounds_toArray] | simp only [List.set_cons_zero] | simp only [List.set_cons_succ]))
  refine tkYH (v := ?_) 41 hO hH rfl (fun _ _ _ h => h) ?hc ?hw ?hy ?_
  case hc => decide +kernel
  case hw => rfl
  case hy => (intro w hS; (try dsimp only at hS); go_simp; try with_reducible rfl)
  (try simp only [Act.put]); (repeat (first | simp only [List.setIfInBounds_toArray] | simp only [List.set_cons_zero] | simp only [List.set_cons_succ]))
  refine tkYH (v := ?_) 42 hO hH rfl (fun _ _ _ h => h) ?hc ?hw ?hy ?_
  case hc => decide +kernel
  case hw => rfl
  case hy => (intro w hS; (try dsimp only at hS); go_simp; try with_reducible rfl)
  (try simp only [Act.put]); (repeat (first | simp only [List.setIfInBounds_toArray] | simp only [List.set_cons_zero] | simp only [List.set_cons_succ]))
  refine tkYH (v := ?_) 43 hO hH rfl (fun _ _ _ h => h) ?hc ?hw ?hy ?_
  case hc => decide +kernel
  case hw => rfl
  case hy => (intro w hS; (try dsimp only at hS); go_simp; try with_reducible rfl)
  (try simp only [Act.put]); (repeat (first | simp only [List.setIfInBounds_toArray] | simp only [List.set_cons_zero] | simp only [List.set_cons_succ]))
  refine tkYH (v := ?_) 44 hO hH rfl (fun _ _ _ h => h) ?hc ?hw ?hy ?_
  case hc => decide +kernel
  case hw => rfl
  case hy => (intro w hS; (try dsimp only at hS); go_simp; try with_reducible rfl)
  (try simp only [Act.put]); (repeat (first | simp only [List.setIfInBounds_toArray] | simp only [List.set_cons_zero] | simp only [List.set_cons_succ]))
  refine tkYH (v := ?_) 45 hO hH rfl (fun _ _ _ h => h) ?hc ?hw ?hy ?_
  case hc => decide +kernel
  case hw => rfl
  case hy => (intro w hS; (try dsimp only at hS); go_simp; try with_reducible rfl)
  (try simp only [Act.put]); (repeat (first | simp only [List.setIfInBounds_toArray] | simp only [List.set_cons_zero] | simp only [List.set_cons_succ]))
  refine tkYH (v := ?_) 46 hO hH rfl (fun _ _ _ h => h) ?hc ?hw ?hy ?_
  case hc => decide +kernel
  case hw => rfl
  case hy => (intro w hS; (try dsimp only at hS); go_simp; try with_reducible rfl)
  (try simp only [Act.put]); (repeat (first | simp only [List.setIfInBounds_toArray] | simp only [List.set_cons_zero] | simp only [List.set_cons_succ]))
  refine tkYH (v := ?_) 47 hO hH rfl (fun _ _ _ h => h) ?hc ?hw ?hy ?_
  case hc => decide +kernel
  case hw => rfl
  case hy => (intro w hS; (try dsimp only at hS); go_simp; try with_reducible rfl)
  (try simp only [Act.put]); (repeat (first | simp only [List.setIfInBounds_toArray] | simp only [List.set_cons_zero] | simp only [List.set_cons_succ]))
  refine tkYH (v := ?_) 48 hO hH rfl (fun _ _ _ h => h) ?hc ?hw ?hy ?_
  case hc => decide +kernel
  case hw => rfl
  case hy => (intro w hS; (try dsimp only at hS); go_simp; try with_reducible rfl)
  (try simp only [Act.put]); (repeat (first | simp only [List.setIfInBounds_toArray] | simp only [List.set_cons_zero] | simp only [List.set_cons_succ]))
  refine tkYH (v := ?_) 49 hO hH rfl (fun _ _ _ h => h) ?hc ?hw ?hy ?_
  case hc => decide +kernel
  case hw => rfl
  case hy => (intro w hS; (try dsimp only at hS); go_simp; try with_reducible rfl)
  (try simp only [Act.put]); (repeat (first | simp only [List.setIfInBounds_toArray] | simp only [List.set_cons_zero] | simp only [List.set_cons_succ]))
  refine tkYH (v := ?_) 50 hO hH rfl (fun _ _ _ h => h) ?hc ?hw ?hy ?_
  case hc => decide +kernel
  case hw => rfl
  case hy => (intro w hS; (try dsimp only at hS); go_simp; try with_reducible rfl)
  (try simp only [Act.put]); (repeat (first | simp only [List.setIfInBounds_toArray] | simp only [List.set_cons_zero] | simp only [List.set_cons_succ]))
  refine tkYH (v := ?_) 51 hO hH rfl (fun _ _ _ h => h) ?hc ?hw ?hy ?_
  case hc => decide +kernel
  case hw => rfl
  case hy => (intro w hS; (try dsimp only at hS); go_simp; try with_reducible rfl)
  (try simp only [Act.put]); (repeat (first | simp only [List.setIfInBounds_toArray] | simp only [List.set_cons_zero] | simp only [List.set_cons_succ]))
  refine spkH 52 hO rfl ?hr ?hw (fun K' hK => ?_)
  case hr => decide +kernel
  case hw => rfl
  go_simp
  with_reducible refine SH.out.mono ?_
  rintro e w11 ⟨rfl, hd⟩
  try dsimp only
  refine hK.out _ _ ?hS (fun hH' => ?_)
  case hS =>
    exact ⟨below_cells hd.below d0, below_cells hd.below d1, below_cells hd.below d4, below_cells hd.below d7, below_cells hd.below d11, below_cells hd.below d16, below_cells hd.below s10, below_cells hd.below s15⟩
  clear hK K' hH; have hH := hH'; clear hH'; (try simp only [Act.put]); (repeat (first | simp only [List.setIfInBounds_toArray] | simp only [List.set_cons_zero] | simp only [List.set_cons_succ]))
  refine tkYH (v := ?_) 53 hO hH rfl (fun _ _ _ h => h) ?hc ?hw ?hy ?_
  case hc => decide +kernel
  case hw => rfl
  case hy => (intro w hS; (try dsimp only at hS); go_simp; try with_reducible rfl)
  (try simp only [Act.put]); (repeat (first | simp only [List.setIfInBounds_toArray] | simp only [List.set_cons_zero] | simp only [List.set_cons_succ]))
  refine tkYH (v := ?_) 54 hO hH rfl (fun _ _ _ h => h) ?hc ?hw ?hy ?_
  case hc => decide +kernel
  case hw => rfl
  case hy => (intro w hS; (try dsimp only at hS); go_simp; try with_reducible rfl)
  (try simp only [Act.put]); (repeat (first | simp only [List.setIfInBounds_toArray] | simp only [List.set_cons_zero] | simp only [List.set_cons_succ]))
  refine tkYH (v := ?_) 55 hO hH rfl (fun _ _ _ h => h) ?hc ?hw ?hy ?_
  case hc => decide +kernel
  case hw => rfl
  case hy => (intro w hS; (try dsimp only at hS); go_simp; try with_reducible rfl)
  (try simp only [Act.put]); (repeat (first | simp only [List.setIfInBounds_toArray] | simp only [List.set_cons_zero] | simp only [List.set_cons_succ]))
  refine spkH 56 hO rfl ?hr ?hw (fun K' hK => ?_)
  case hr => decide +kernel
  case hw => rfl
  go_simp
  with_reducible refine (lenS w.heap.size c ⟨n, 2, 1, []⟩ w11 (G10.out.below hd.below)).mono ?_
  rintro e w12 ⟨rfl, rfl⟩
  try dsimp only
  refine hK.out _ _ ?hS (fun hH' => ?_)
  case hS =>
    exact ⟨below_cells hd.below d0, below_cells hd.below d1, below_cells hd.below d4, below_cells hd.below d7, below_cells hd.below d11, below_cells hd.below d16, below_cells hd.below s10, below_cells hd.below s15⟩
  clear hK K' hH; have hH := hH'; clear hH'; (try simp only [Act.put]); (repeat (first | simp only [List.setIfInBounds_toArray] | simp only [List.set_cons_zero] | simp only [List.set_cons_succ]))
  refine tkYH (v := ?_) 57 hO hH rfl (fun _ _ _ h => h) ?hc ?hw ?hy ?_
  case hc => decide +kernel
  case hw => rfl
  case hy => (intro w hS; (try dsimp only at hS); go_simp; try with_reducible rfl)
  (try simp only [Act.put]); (repeat (first | simp only [List.setIfInBounds_toArray] | simp only [List.set_cons_zero] | simp only [List.set_cons_succ]))
  refine tkYH (v := ?_) 58 hO hH rfl (fun _ _ _ h => h) ?hc ?hw ?hy ?_
  case hc => decide +kernel
  case hw => rfl
  case hy => (intro w hS; (try dsimp only at hS); go_simp; try with_reducible rfl)
  (try simp only [Act.put]); (repeat (first | simp only [List.setIfInBounds_toArray] | simp only [List.set_cons_zero] | simp only [List.set_cons_succ]))
  refine tkYH (v := ?_) 59 hO hH rfl (fun _ _ _ h => h) ?hc ?hw ?hy ?_
  case hc => decide +kernel
  case hw => rfl
  case hy => (intro w hS; (try dsimp only at hS); go_simp; try with_reducible rfl)
  (try simp only [Act.put]); (repeat (first | simp only [List.setIfInBounds_toArray] | simp only [List.set_cons_zero] | simp only [List.set_cons_succ]))
  refine doneH hO (by decide +kernel) ?_
  clear hO
  clear hH
  have BF := Lib.hid (B10.out.trans (hd.below.mono B10.out.size))
  clear hd
  go_wp2_with fail
  go_ret
  exact ⟨rfl, BF.out⟩

end Go.Proofs.YtfmlhdikagogcaaDoor
