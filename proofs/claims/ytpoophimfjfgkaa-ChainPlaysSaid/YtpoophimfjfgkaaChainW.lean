/-
  chain's law: ChainPlays.
-/
import Derived.Test.YtpoophimfjfgkaaChainV
import Derived.Test.YtpoophimfjfgkaaChainT
import Derived.Test.YtpoophimfjfgkaaChainK
import Derived.Deep.DeepCutAuto
namespace Go.Proofs.Ytpoophimfjfgkaa
open Go.RowKit

set_option maxHeartbeats 8000000 in
set_option maxRecDepth 100000 in
theorem chainPlays (isNil : Bool) (m : List OpZ) (hm : ∀ r ∈ m, r.Fits) (v : Value) (w : World) (h : Script w v m) :
    Calls Try.prog 3 #[.bool isNil, v] w fun e w' => e = .returned (.bool true) ∧ Below w.heap.size w w' := by
  obtain ⟨p, cap, rfl, hcap, hbig, -, -⟩ := id h
  have hl9 : m.length ≤ 9223372036854775807 := by omega
  have H := Lib.hid h
  have M := Lib.hid hm
  clear h hm hcap hbig
  go_enter Try.func3, Try.ntmps3
  go_wp2_with fail
  refine (awake_true w).mono ?_
  rintro e w1 ⟨rfl, hb1⟩
  have B1 := Lib.hid hb1
  clear hb1
  go_wp2_with fail
  refine (new [] (by simp) (by simp) _ w1 ⟨Option.none, 0, rfl, by simp, by simp, by simp, fun i hi => absurd hi (by simp)⟩).mono ?_
  rintro e w2 (⟨-, c, rfl, hc, hb2⟩ | ⟨hne, -⟩)
  case inr => exact absurd rfl hne
  have L2 := Lib.hid (InLaw.new B1.out hc hb2)
  clear hc hb2
  cases isNil
  · skip
    go_wp2_with fail
    go_loopg [7, 30] m.length (fun q u7 i wr => ∃ (k : Nat) (l : List (Int × List Int)), q = m.length - k ∧ k ≤ m.length ∧ k ≤ 40 ∧ i = .int .i64 k ∧ l.length ≤ k ∧ PlayIn false w (.pointer (some ⟨c, 0, none⟩)) u7 l wr)
    case atStart => exact ⟨0, [], rfl, by omega, by omega, rfl, by simp, _, fun _ => False, ⟨.inr ⟨rfl, c, rfl, L2.out.chain⟩, L2.out.lo, L2.out.hi, L2.out.below, Good.nil⟩, RecsF.nil _ _, fun _ h => h.elim, fun _ h => h.elim, fun _ _ h => h⟩
    case round =>
      obtain ⟨k, l, rfl, hk, hk40, rfl, hll, hP⟩ := hrel
      have X := Lib.hid hP
      have hbw : Below w.heap.size w wr := let ⟨_, _, h, _⟩ := hP; h.below
      by_cases hgo : k < m.length ∧ k < 40
      · obtain ⟨hlt, h40⟩ := hgo
        obtain ⟨b, off, u, rfl, c0, c1, c2, c3, hu⟩ := H.out.elem hlt
        replace c0 := below_cells hbw c0
        replace c1 := below_cells hbw c1
        replace c2 := below_cells hbw c2
        replace c3 := below_cells hbw c3
        obtain ⟨up, uc, rfl, -, -, -, -⟩ := id hu.slice
        have U := Lib.hid hu
        obtain ⟨fa1, fa2, fs1, fs2, fq1, fq2, -⟩ := M.out _ (List.getElem_mem hlt)
        clear hP hbw hu
        generalize m[k] = o at *
        go_upto_if 40 with fail
        have hbx := (Below.refl wr.heap.size wr).alloc (Nat.le_refl _) (Obj.cells #[Value.int IntKind.u8 o.act, Value.int IntKind.u64 o.stamp, Value.slice up o.vec.length uc, Value.int IntKind.u64 o.ask] 32)
        have y1 : (wr.alloc (Obj.cells #[Value.int IntKind.u8 o.act, Value.int IntKind.u64 o.stamp, Value.slice up o.vec.length uc, Value.int IntKind.u64 o.ask] 32)).cell? ⟨wr.heap.size, 1, none⟩ = some (.int .u64 o.stamp) := by go_simp
        have y2 : (wr.alloc (Obj.cells #[Value.int IntKind.u8 o.act, Value.int IntKind.u64 o.stamp, Value.slice up o.vec.length uc, Value.int IntKind.u64 o.ask] 32)).cell? ⟨wr.heap.size, 2, none⟩ = some (.slice up o.vec.length uc) := by go_simp
        have y3 : (wr.alloc (Obj.cells #[Value.int IntKind.u8 o.act, Value.int IntKind.u64 o.stamp, Value.slice up o.vec.length uc, Value.int IntKind.u64 o.ask] 32)).cell? ⟨wr.heap.size, 3, none⟩ = some (.int .u64 o.ask) := by go_simp
        have hX1 := X.out.step hbx
        have hx10 : (o.vec.take 10).length ≤ 10 := by simp; omega
        have CV := Lib.hid (fun W (hW : Below w.heap.size w W) => (show Calls Try.prog 13 #[.slice up o.vec.length uc, .int .i64 10] W (NewNums W .i32 21 (o.vec.take 10)) from cutVec o.vec _ 10 W (U.out.below hW) (by decide) (.inr (by decide))))
        generalize o.vec.take 10 = xs at *
        have hFb : ∃ F R, ChainV false w F (.pointer (some ⟨c, 0, none⟩)) l wr ∧ RecsF wr R u7 l ∧ (∀ k, R k → w.heap.size ≤ k) ∧ (∀ k, R k → k < wr.heap.size) ∧ ∀ k, F k → ¬ R k := X.out
        obtain ⟨F, R, hc0, hr0, hRlo, hRhi, hFR⟩ := hFb
        have hFhi := hc0.hi
        have hc1 := hc0.step hbx
        have hr1 := hr0.agree (Agree.of_below hbx hRhi)
        have hs1 := hbx.size
        have xb : wr.heap.size < (wr.alloc (Obj.cells #[Value.int IntKind.u8 o.act, Value.int IntKind.u64 o.stamp, Value.slice up o.vec.length uc, Value.int IntKind.u64 o.ask] 32)).heap.size := by simp
        generalize (wr.alloc (Obj.cells #[Value.int IntKind.u8 o.act, Value.int IntKind.u64 o.stamp, Value.slice up o.vec.length uc, Value.int IntKind.u64 o.ask] 32)) = W1 at *
        have Q := Lib.hid (And.intro hc1 (And.intro hr1 (And.intro hRlo (And.intro (fun k hk => Nat.lt_of_lt_of_le (hRhi k hk) hs1) (And.intro hFR hFhi)))))
        clear hbx hX1 hc0 hr0 hRlo hRhi hFR hFhi hc1 hr1 X U H hs1 c0 c1 c2 c3
        go_cut [7] (fun s7 wc => ∃ l' : List (Int × List Int), l'.length ≤ k + 1 ∧ PlayIn false w (.pointer (some ⟨c, 0, none⟩)) s7 l' wc ∧ wc.cell? ⟨wr.heap.size, 3, none⟩ = some (.int .u64 o.ask))
        case first =>
          cases hb4 : (o.act % 5 == 4)
          · go_wp2_with fail
            refine (CV.out W1 Q.out.1.below).mono ?_
            rintro e w2 ⟨ua, rfl, hua, hb2⟩
            have NU := (Nums.of_own hua).slice
            obtain ⟨aq, ac, rfl, hac1, hac2, -, -⟩ := NU
            have hx9 : xs.length ≤ 9223372036854775807 := by omega
            have z1 := below_cells hb2 y1
            have z2 := below_cells hb2 y2
            have z3 := below_cells hb2 y3
            have PV0 := putV (Q.out.1.step hb2) (by omega) o.stamp fs1 xs _ (Nums.of_own hua) (by omega)
            rw [show putN false l o.stamp xs = putZ l o.stamp xs from rfl] at PV0
            have PV := Lib.hid PV0
            clear PV0
            have S2 := Lib.hid (And.intro hua hb2)
            clear hua hb2 y1 y2 y3 hac1 hac2
            go_wp2_with fail
            refine PV.out.mono ?_
            rintro e w3 ⟨rfl, hc3, hm3⟩
            obtain ⟨m1, m2, m3, m4⟩ := put_mid Q.out.1 Q.out.2.1 Q.out.2.2.2.1 Q.out.2.2.2.2.1 S2.out.2 S2.out.1 hc3 hm3
            have kk : ∀ a : Addr, a.block = wr.heap.size → w3.cell? a = w2.cell? a := fun a ha => World.cell?_of_block (by rw [ha]; exact hm3.block _ (lt_of_cell z3) fun hf => by have := Q.out.2.2.2.2.2 _ hf; omega)
            have t1 : w3.cell? ⟨wr.heap.size, 1, none⟩ = some (.int .u64 o.stamp) := by rw [kk _ rfl]; exact z1
            have t2 : w3.cell? ⟨wr.heap.size, 2, none⟩ = some (.slice up o.vec.length uc) := by rw [kk _ rfl]; exact z2
            have t3 : w3.cell? ⟨wr.heap.size, 3, none⟩ = some (.int .u64 o.ask) := by rw [kk _ rfl]; exact z3
            have s13 : W1.heap.size ≤ w3.heap.size := by have := S2.out.2.size; have := hm3.size; omega
            have Y3 := Lib.hid (And.intro hc3 (And.intro m1 (And.intro m2 (And.intro m3 m4))))
            generalize Plus F w2 w3 = F3 at *
            clear z1 z2 z3 PV hc3 hm3 m1 m2 m3 m4 kk
            have PR := Lib.hid (fun W (h : RecsF W R u7 l) (hh : ∀ k, R k → k < W.heap.size) u (hu : Nums W .i32 u xs) => refPut l Q.out.1.good.rising (by omega) o.stamp xs u u7 R W h hh hu (by omega))
            have hpl := putZ_length l o.stamp xs
            generalize putZ l o.stamp xs = pz at *
            obtain ⟨pe, pl⟩ := pz
            simp only at hpl Y3
            go_wp2_with fail
            obtain ⟨W0, hW0⟩ : ∃ W0, W0 = w3.drew := ⟨_, rfl⟩
            have hb0 : Below w3.heap.size w3 W0 := by rw [hW0]; exact (Below.refl _ _).drew
            have y1 := below_cells hb0 t1
            have y2 := below_cells hb0 t2
            have y3 := below_cells hb0 t3
            have HW := Lib.hid hW0
            have B0 := Lib.hid hb0
            clear hW0 hb0 t1 t2 t3
            refine region_go (fun w' => w'.cell? ⟨wr.heap.size, 1, none⟩ = some (.int .u64 o.stamp) ∧ w'.cell? ⟨wr.heap.size, 2, none⟩ = some (.slice up o.vec.length uc)) (by kernel_rfl) ?hS0 (fun hH => ?_)
            case hS0 =>
              rw [← HW.out]; exact ⟨y1, y2⟩
            rw [← HW.out] at hH ⊢
            refine tkY (v := ?_) 0 hH rfl (fun _ _ _ h => h) ?hc ?hw ?hy ?_
            case hc => decide +kernel
            case hw => rfl
            case hy => (intro w hS; (try dsimp only at hS); go_simp; try with_reducible rfl)
            (try simp only [Act.put]); (repeat (first | simp only [List.setIfInBounds_toArray] | simp only [List.set_cons_zero] | simp only [List.set_cons_succ]))
            refine tkY (v := ?_) 1 hH rfl (fun _ _ _ h => h) ?hc ?hw ?hy ?_
            case hc => decide +kernel
            case hw => rfl
            case hy => (intro w hS; (try dsimp only at hS); go_simp; try with_reducible rfl)
            (try simp only [Act.put]); (repeat (first | simp only [List.setIfInBounds_toArray] | simp only [List.set_cons_zero] | simp only [List.set_cons_succ]))
            refine tkY (v := ?_) 2 hH rfl (fun _ _ _ h => h) ?hc ?hw ?hy ?_
            case hc => decide +kernel
            case hw => rfl
            case hy => (intro w hS; (try dsimp only at hS); go_simp; try with_reducible rfl)
            (try simp only [Act.put]); (repeat (first | simp only [List.setIfInBounds_toArray] | simp only [List.set_cons_zero] | simp only [List.set_cons_succ]))
            refine tkY (v := ?_) 3 hH rfl (fun _ _ _ h => h) ?hc ?hw ?hy ?_
            case hc => decide +kernel
            case hw => rfl
            case hy => (intro w hS; (try dsimp only at hS); go_simp; try with_reducible rfl)
            (try simp only [Act.put]); (repeat (first | simp only [List.setIfInBounds_toArray] | simp only [List.set_cons_zero] | simp only [List.set_cons_succ]))
            refine tkY (v := ?_) 4 hH rfl (fun _ _ _ h => h) ?hc ?hw ?hy ?_
            case hc => decide +kernel
            case hw => rfl
            case hy => (intro w hS; (try dsimp only at hS); go_simp; try with_reducible rfl)
            (try simp only [Act.put]); (repeat (first | simp only [List.setIfInBounds_toArray] | simp only [List.set_cons_zero] | simp only [List.set_cons_succ]))
            refine spk 5 rfl ?hr ?hw (fun K' hK => ?_)
            case hr => decide +kernel
            case hw => rfl
            go_simp
            refine (CV.out W0 (Y3.out.1.below.trans (B0.out.mono Y3.out.1.below.size))).mono ?_
            rintro e w5 ⟨ub, rfl, hub, hb5⟩
            obtain ⟨q5, m5, k5, rfl⟩ := own_form hub
            have B5 := Lib.hid (B0.out.trans (hb5.mono B0.out.size))
            have N5 := Lib.hid (Nums.of_own hub)
            have x1 := below_cells hb5 y1
            have x2 := below_cells hb5 y2
            have x3 := below_cells hb5 y3
            have R3hi : ∀ k, R k → k < w3.heap.size := fun k hk => Nat.lt_of_lt_of_le (Q.out.2.2.2.1 k hk) s13
            have PR5 := Lib.hid (PR.out w5 (Y3.out.2.1.agree (Agree.of_below B5.out R3hi)) (fun k hk => Nat.lt_of_lt_of_le (R3hi k hk) B5.out.size) _ N5.out)
            clear hub hb5 y1 y2 y3
            try dsimp only
            refine hK.out _ _ ?hS (fun hH' => ?_)
            case hS =>
              exact ⟨x1, x2⟩
            clear hK K' hH; have hH := hH'; clear hH'; (try simp only [Act.put]); (repeat (first | simp only [List.setIfInBounds_toArray] | simp only [List.set_cons_zero] | simp only [List.set_cons_succ]))
            refine tkY (v := ?_) 6 hH rfl (fun _ _ _ h => h) ?hc ?hw ?hy ?_
            case hc => decide +kernel
            case hw => rfl
            case hy => (intro w hS; (try dsimp only at hS); go_simp; try with_reducible rfl)
            (try simp only [Act.put]); (repeat (first | simp only [List.setIfInBounds_toArray] | simp only [List.set_cons_zero] | simp only [List.set_cons_succ]))
            refine spk 7 rfl ?hr ?hw (fun K' hK => ?_)
            case hr => decide +kernel
            case hw => rfl
            go_simp
            refine PR5.out.mono ?_
            rintro e w6 ⟨v7, rfl, hr6, hb6⟩
            have E6 := Lib.hid (show Below w.heap.size w w6 ∧ Apart false w (.pointer (some ⟨c, 0, none⟩)) v7 (.slice aq xs.length ac) pl w6 ∧ w6.ownsRow W1.heap.size 21 1 (.slice aq xs.length ac) xs.length (xs.map (Value.int .i32)) from
              ⟨(Y3.out.1.below.trans (B5.out.mono Y3.out.1.below.size)).trans (hb6.mono (by have := Y3.out.1.below.size; have := B5.out.size; omega)), apart_put Y3.out.1 Q.out.2.2.1 R3hi Y3.out.2.2.2.1 Y3.out.2.2.1 Q.out.1.below.size Y3.out.2.2.2.2 B5.out hb6 hr6, own_below (own_below Y3.out.2.2.1 B5.out) hb6⟩)
            have r6 := below_cells hb6 x2
            have t6 := below_cells hb6 x3
            have t61 := below_cells hb6 x1
            have s16 : W1.heap.size ≤ w6.heap.size := by have := B5.out.size; have := hb6.size; omega
            clear hr6 hb6 x1 x2 x3 R3hi
            try dsimp only
            refine hK.out _ _ ?hS (fun hH' => ?_)
            case hS =>
              exact ⟨t61, r6⟩
            clear hK K' hH; have hH := hH'; clear hH'; (try simp only [Act.put]); (repeat (first | simp only [List.setIfInBounds_toArray] | simp only [List.set_cons_zero] | simp only [List.set_cons_succ]))
            refine tkY (v := ?_) 8 hH rfl (fun _ _ _ h => h) ?hc ?hw ?hy ?_
            case hc => decide +kernel
            case hw => rfl
            case hy => (intro w hS; (try dsimp only at hS); go_simp; try with_reducible rfl)
            (try simp only [Act.put]); (repeat (first | simp only [List.setIfInBounds_toArray] | simp only [List.set_cons_zero] | simp only [List.set_cons_succ]))
            refine tkY (v := ?_) 9 hH rfl (fun _ _ _ h => h) ?hc ?hw ?hy ?_
            case hc => decide +kernel
            case hw => rfl
            case hy => (intro w hS; (try dsimp only at hS); go_simp; try with_reducible rfl)
            (try simp only [Act.put]); (repeat (first | simp only [List.setIfInBounds_toArray] | simp only [List.set_cons_zero] | simp only [List.set_cons_succ]))
            refine tkY (v := ?_) 10 hH rfl (fun _ _ _ h => h) ?hc ?hw ?hy ?_
            case hc => decide +kernel
            case hw => rfl
            case hy => (intro w hS; (try dsimp only at hS); go_simp; try with_reducible rfl)
            (try simp only [Act.put]); (repeat (first | simp only [List.setIfInBounds_toArray] | simp only [List.set_cons_zero] | simp only [List.set_cons_succ]))
            refine tkY (v := ?_) 11 hH rfl (fun _ _ _ h => h) ?hc ?hw ?hy ?_
            case hc => decide +kernel
            case hw => rfl
            case hy => (intro w hS; (try dsimp only at hS); go_simp; try with_reducible rfl)
            (try simp only [Act.put]); (repeat (first | simp only [List.setIfInBounds_toArray] | simp only [List.set_cons_zero] | simp only [List.set_cons_succ]))
            refine tkY (v := ?_) 12 hH rfl (fun _ _ _ h => h) ?hc ?hw ?hy ?_
            case hc => decide +kernel
            case hw => rfl
            case hy => (intro w hS; (try dsimp only at hS); go_simp; try with_reducible rfl)
            (try simp only [Act.put]); (repeat (first | simp only [List.setIfInBounds_toArray] | simp only [List.set_cons_zero] | simp only [List.set_cons_succ]))
            refine wpAnyH_done (by decide +kernel) ?_ _
            clear hH t61
            go_wp2_with fail
            refine (CV.out w6 E6.out.1).mono ?_
            rintro e w7 ⟨ub, rfl, hub, hb7⟩
            have SV := Lib.hid (sameVecOne xs _ _ w7 ((Nums.of_own E6.out.2.2).below hb7) (Nums.of_own hub))
            have AP := Lib.hid (E6.out.2.1.step hb7)
            have UA := Lib.hid (own_below E6.out.2.2 hb7)
            have t7 := below_cells hb7 t6
            have s7 := hb7.size
            clear t6 r6 hub hb7
            go_wp2_with fail
            refine SV.out.mono ?_
            rintro e w8 ⟨rfl, hd8⟩
            have AP8 := Lib.hid (AP.out.step hd8.below)
            have UA8 := Lib.hid (own_below UA.out hd8.below)
            have t8 := below_cells hd8.below t7
            have s8 : W1.heap.size ≤ w8.heap.size := by have := hd8.below.size; omega
            clear t7 hd8
            go_wp2_with fail
            generalize wr.heap.size = bk at *
            go_loopg [90] xs.length (fun q i wi => ∃ (j : Nat) (ys : List Int), q = xs.length - j ∧ j ≤ xs.length ∧ i = .int .i64 j ∧ wi.ownsRow W1.heap.size 21 1 (.slice aq xs.length ac) xs.length (ys.map (Value.int .i32)) ∧ ys.length = xs.length ∧ Mod (fun k => (Value.slice aq xs.length ac).ownBlock = some k) w8 wi)
            case atStart => exact ⟨0, xs, rfl, by omega, rfl, UA8.out, rfl, Mod.refl _ _⟩
            case round =>
              obtain ⟨j, ys, rfl, hj, rfl, hown, hyl, hmod⟩ := hrel
              by_cases hjl : j < xs.length
              · obtain ⟨g, gc, he, hg1, hg2⟩ := hown.form (by omega)
                obtain ⟨rfl, -, rfl⟩ := Value.slice.inj he
                obtain ⟨y0, d0⟩ : ∃ y : Int, wr.cell? ⟨g, j, none⟩ = some (.int .i32 y) := by
                  have c0 := hown.cellAt j (by omega)
                  rw [List.getElem?_map, List.getElem?_eq_getElem (by omega)] at c0
                  exact ⟨_, c0⟩
                have f0 := hown.frozenAt j
                have Z := Lib.hid (And.intro hown (And.intro hyl hmod))
                clear hown hyl hmod he
                go_wp2_with fail
                go_roundg (xs.length - (j + 1))
                case measure => omega
                case rel => exact ⟨j + 1, _, rfl, by omega, by go_num, own_store Z.out.1 hjl _, by simpa using Z.out.2.1, Z.out.2.2.setCell (p := ⟨g, j, Option.none⟩) (.inl rfl) _⟩
              · obtain rfl : xs.length = j := by omega
                have P9 := Lib.hid (AP8.out.write hmod)
                have t9 : wr.cell? ⟨bk, 3, none⟩ = some (.int .u64 o.ask) := by
                  rw [World.cell?_of_block (hmod.block bk (lt_of_cell t8) fun hf => by have := (UA8.out.lt _ hf).1; omega)]; exact t8
                clear hown hyl hmod
                go_wp2_with fail
                go_meet
                exact ⟨_, (by omega), P9.out.play, t9⟩
          · go_wp2_with fail
            refine (refSweep l Q.out.1.good.rising o.stamp u7 R W1 Q.out.2.1 (by omega)).mono ?_
            rintro e w2 ⟨v1, v2, rfl, hr2, hv2, hvb, hb2⟩
            have S2 := Lib.hid (And.intro hr2 (And.intro hv2 (And.intro hvb hb2)))
            have z1 := below_cells hb2 y1
            have z3 := below_cells hb2 y3
            have SW := Lib.hid (sweepV (Q.out.1.step hb2) (by omega) o.stamp)
            clear hr2 hv2 hvb hb2 y1 y2 y3
            go_wp2_with fail
            refine SW.out.mono ?_
            rintro e w3 ⟨v3, rfl, hv3, hc3, hm3⟩
            obtain ⟨hp3, hn3⟩ := PlayIn.swept Q.out.1 Q.out.2.2.1 Q.out.2.2.2.1 Q.out.2.2.2.2.1 S2.out.2.2.2 S2.out.1 S2.out.2.1 S2.out.2.2.1 hc3 hm3
            have P3 := Lib.hid hp3
            have t3 : w3.cell? ⟨wr.heap.size, 3, none⟩ = some (.int .u64 o.ask) := by
              rw [World.cell?_of_block (hm3.block wr.heap.size (lt_of_cell z3) fun hf => by have := Q.out.2.2.2.2.2 _ hf; omega)]; exact z3
            have SN := Lib.hid (sameNumsOne _ _ _ w3 hv3 hn3)
            clear z1 z3 SW hv3 hc3 hm3 hp3 hn3
            go_wp2_with fail
            refine SN.out.mono ?_
            rintro e w4 ⟨rfl, hd4⟩
            have D4 := Lib.hid hd4.below
            clear hd4
            go_wp2_with fail
            go_meet
            exact ⟨_, by simp; omega, P3.out.step D4.out, below_cells D4.out t3⟩
        case rest =>
          obtain ⟨l', hl', hP', t3⟩ := hcut
          obtain ⟨F', R', hc, hr, hRlo, hRhi, hFR⟩ := hP'
          have GD := Lib.hid hc.good
          obtain ⟨q7, c7, rfl, hq1, hq2, -, -⟩ := id hr
          have hl9' : l'.length ≤ 9223372036854775807 := by omega
          have RZ := Lib.hid (ratZ_eq (s := o.ask) hc.good.rising)
          have C0 := Lib.hid hc
          have D0 := Lib.hid (And.intro hr (And.intro hRlo (And.intro hRhi hFR)))
          clear CV Q y1 y2 y3 xb hc hr hRlo hRhi hFR hq1 hq2 F R W1 hx10 xs
          go_wp2_with fail
          refine (atV C0.out (by omega) o.ask).mono ?_
          rintro e wa ⟨va, rfl, hva, hba⟩
          have C1 := Lib.hid (C0.out.step hba)
          have R1 := Lib.hid (D0.out.1.agree (Agree.of_below hba D0.out.2.2.1))
          have h1 : ∀ k, R' k → k < wa.heap.size := fun k hk => Nat.lt_of_lt_of_le (D0.out.2.2.1 k hk) hba.size
          have H1 := Lib.hid h1
          have V1 := Lib.hid (Nums.of_own hva)
          have t4 := below_cells hba t3
          clear hva hba t3 h1
          go_wp2_with fail
          refine (refAt l' o.ask _ R' wa R1.out).mono ?_
          rw [RZ.out]
          rintro e wb ⟨vb, rfl, hvb, -, hbb⟩
          obtain ⟨bq, bc, rfl, hbq1, hbq2, -, -⟩ := id hvb.slice
          have hx9 : (atZ o.ask l').length ≤ 9223372036854775807 := by omega
          have C2 := Lib.hid (C1.out.step hbb)
          have hr2 := R1.out.agree (Agree.of_below hbb H1.out)
          have R2 := Lib.hid hr2
          have H2 := Lib.hid (fun k hk => Nat.lt_of_lt_of_le (H1.out k hk) hbb.size)
          have SV := Lib.hid (sameVecOne _ _ _ wb (V1.out.below hbb) hvb)
          clear hvb hbb hbq1 hbq2 t4
          generalize atZ o.ask l' = xs at *
          go_upto_if 113 with fail
          go_cut [18] (fun s18 we => s18 = .int .u64 (lastZ l') ∧ we = wb)
          case first =>
            by_cases h0 : l'.length = 0
            · have hz : l'.length ≤ 0 := by omega
              have e0 : l' = [] := List.eq_nil_of_length_eq_zero h0
              have e1 : lastZ l' = 0 := by rw [e0]; rfl
              have E1 := Lib.hid e1
              clear e1 e0 h0 hr2
              go_wp2_with fail
              go_meet
              exact ⟨by rw [E1.out], rfl⟩
            · have hz : 1 ≤ l'.length := by omega
              obtain ⟨bb, off2, uu, rfl, -, d0, d1, -, -⟩ := hr2.elem (i := l'.length - 1) (by omega)
              have hne : l' ≠ [] := fun e => h0 (by rw [e]; rfl)
              have E1 := Lib.hid (show lastZ l' = l'[l'.length - 1].1 by unfold lastZ; rw [List.getLast?_eq_some_getLast hne, List.getLast_eq_getElem])
              clear d1 hne hr2
              go_wp2_with fail
              go_meet
              exact ⟨by rw [E1.out], rfl⟩
          case rest =>
            obtain ⟨rfl, rfl⟩ := hcut
            clear hr2
            go_wp2_with fail
            refine SV.out.mono ?_
            rintro e wd ⟨rfl, hd⟩
            have C3 := Lib.hid (C2.out.step hd.below)
            have R3 := Lib.hid (R2.out.agree (Agree.of_below hd.below H2.out))
            have H3 := Lib.hid (fun k hk => Nat.lt_of_lt_of_le (H2.out k hk) hd.below.size)
            clear hd SV
            go_wp2_with fail
            refine (listV C3.out (by omega)).mono ?_
            rintro e wf ⟨lv, lrs, rfl, hlo, hlh, hbf⟩
            have L4 := Lib.hid (Recs.of_own hlo hlh)
            have C4 := Lib.hid (C3.out.step hbf)
            have R4 := Lib.hid (R3.out.agree (Agree.of_below hbf H3.out))
            have H4 := Lib.hid (fun k hk => Nat.lt_of_lt_of_le (H3.out k hk) hbf.size)
            clear hlo hlh hbf
            go_wp2_with fail
            refine (back l' lv _ wf L4.out.toF (by omega)).mono ?_
            rintro e wg ⟨bv, rfl, hbr, hbg⟩
            have C5 := Lib.hid (C4.out.step hbg)
            have R5 := Lib.hid (R4.out.agree (Agree.of_below hbg H4.out))
            have H5 := Lib.hid (fun k hk => Nat.lt_of_lt_of_le (H4.out k hk) hbg.size)
            have SR := Lib.hid (sameVersOne l' _ _ wg hbr.recs (R5.out.recs))
            clear hbr hbg
            go_wp2_with fail
            refine SR.out.mono ?_
            rintro e wh ⟨rfl, hd⟩
            have C6 := Lib.hid (C5.out.step hd.below)
            have R6 := Lib.hid (R5.out.agree (Agree.of_below hd.below H5.out))
            have H6 := Lib.hid (fun k hk => Nat.lt_of_lt_of_le (H5.out k hk) hd.below.size)
            clear hd SR
            go_wp2_with fail
            refine (lastV C6.out (by omega)).mono ?_
            rintro e wi ⟨rfl, hd⟩
            have C7 := Lib.hid (C6.out.step hd.below)
            have R7 := Lib.hid (R6.out.agree (Agree.of_below hd.below H6.out))
            have H7 := Lib.hid (fun k hk => Nat.lt_of_lt_of_le (H6.out k hk) hd.below.size)
            clear hd
            go_wp2_with fail
            refine (lenV C7.out (by omega)).mono ?_
            rintro e wj ⟨rfl, rfl⟩
            go_wp2_with fail
            go_roundg (m.length - (k + 1))
            case measure => omega
            case rel => exact ⟨k + 1, l', rfl, by omega, by omega, by go_num, hl', F', R', C7.out, R7.out, D0.out.2.1, H7.out, D0.out.2.2.2⟩
      · by_cases hlt : k < m.length
        · obtain rfl : 40 = k := by omega
          obtain ⟨b, off, u, rfl, c0, c1, c2, c3, hu⟩ := (H.out.below hbw).elem hlt
          obtain ⟨up, uc, rfl, -, -, -, -⟩ := id hu.slice
          have BW := Lib.hid (hbw.alloc hbw.size (Obj.cells #[Value.int IntKind.u8 m[40].act, Value.int IntKind.u64 m[40].stamp, Value.slice up m[40].vec.length uc, Value.int IntKind.u64 m[40].ask] 32))
          clear hP hbw hu
          go_wp2_with fail
          go_ret
          exact ⟨rfl, BW.out⟩
        · obtain rfl : m.length = k := by omega
          have BW := Lib.hid hbw
          clear hP hbw
          go_wp2_with fail
          go_ret
          exact ⟨rfl, BW.out⟩
  · skip
    go_wp2_with fail
    go_loopg [7, 30] m.length (fun q u7 i wr => ∃ (k : Nat) (l : List (Int × List Int)), q = m.length - k ∧ k ≤ m.length ∧ k ≤ 40 ∧ i = .int .i64 k ∧ l.length ≤ k ∧ PlayIn true w (.pointer none) u7 l wr)
    case atStart => exact ⟨0, [], rfl, by omega, by omega, rfl, by simp, _, fun _ => False, ⟨.inl ⟨rfl, rfl, rfl⟩, L2.out.lo, L2.out.hi, L2.out.below, Good.nil⟩, RecsF.nil _ _, fun _ h => h.elim, fun _ h => h.elim, fun _ _ h => h⟩
    case round =>
      obtain ⟨k, l, rfl, hk, hk40, rfl, hll, hP⟩ := hrel
      have X := Lib.hid hP
      have hbw : Below w.heap.size w wr := let ⟨_, _, h, _⟩ := hP; h.below
      by_cases hgo : k < m.length ∧ k < 40
      · obtain ⟨hlt, h40⟩ := hgo
        obtain ⟨b, off, u, rfl, c0, c1, c2, c3, hu⟩ := H.out.elem hlt
        replace c0 := below_cells hbw c0
        replace c1 := below_cells hbw c1
        replace c2 := below_cells hbw c2
        replace c3 := below_cells hbw c3
        obtain ⟨up, uc, rfl, -, -, -, -⟩ := id hu.slice
        have U := Lib.hid hu
        obtain ⟨fa1, fa2, fs1, fs2, fq1, fq2, -⟩ := M.out _ (List.getElem_mem hlt)
        clear hP hbw hu
        generalize m[k] = o at *
        go_upto_if 40 with fail
        have hbx := (Below.refl wr.heap.size wr).alloc (Nat.le_refl _) (Obj.cells #[Value.int IntKind.u8 o.act, Value.int IntKind.u64 o.stamp, Value.slice up o.vec.length uc, Value.int IntKind.u64 o.ask] 32)
        have y1 : (wr.alloc (Obj.cells #[Value.int IntKind.u8 o.act, Value.int IntKind.u64 o.stamp, Value.slice up o.vec.length uc, Value.int IntKind.u64 o.ask] 32)).cell? ⟨wr.heap.size, 1, none⟩ = some (.int .u64 o.stamp) := by go_simp
        have y2 : (wr.alloc (Obj.cells #[Value.int IntKind.u8 o.act, Value.int IntKind.u64 o.stamp, Value.slice up o.vec.length uc, Value.int IntKind.u64 o.ask] 32)).cell? ⟨wr.heap.size, 2, none⟩ = some (.slice up o.vec.length uc) := by go_simp
        have y3 : (wr.alloc (Obj.cells #[Value.int IntKind.u8 o.act, Value.int IntKind.u64 o.stamp, Value.slice up o.vec.length uc, Value.int IntKind.u64 o.ask] 32)).cell? ⟨wr.heap.size, 3, none⟩ = some (.int .u64 o.ask) := by go_simp
        have hX1 := X.out.step hbx
        have hx10 : (o.vec.take 10).length ≤ 10 := by simp; omega
        have CV := Lib.hid (fun W (hW : Below w.heap.size w W) => (show Calls Try.prog 13 #[.slice up o.vec.length uc, .int .i64 10] W (NewNums W .i32 21 (o.vec.take 10)) from cutVec o.vec _ 10 W (U.out.below hW) (by decide) (.inr (by decide))))
        generalize o.vec.take 10 = xs at *
        have hFb : ∃ F R, ChainV true w F (.pointer none) l wr ∧ RecsF wr R u7 l ∧ (∀ k, R k → w.heap.size ≤ k) ∧ (∀ k, R k → k < wr.heap.size) ∧ ∀ k, F k → ¬ R k := X.out
        obtain ⟨F, R, hc0, hr0, hRlo, hRhi, hFR⟩ := hFb
        have hFhi := hc0.hi
        have hc1 := hc0.step hbx
        have hr1 := hr0.agree (Agree.of_below hbx hRhi)
        have hs1 := hbx.size
        have xb : wr.heap.size < (wr.alloc (Obj.cells #[Value.int IntKind.u8 o.act, Value.int IntKind.u64 o.stamp, Value.slice up o.vec.length uc, Value.int IntKind.u64 o.ask] 32)).heap.size := by simp
        generalize (wr.alloc (Obj.cells #[Value.int IntKind.u8 o.act, Value.int IntKind.u64 o.stamp, Value.slice up o.vec.length uc, Value.int IntKind.u64 o.ask] 32)) = W1 at *
        have Q := Lib.hid (And.intro hc1 (And.intro hr1 (And.intro hRlo (And.intro (fun k hk => Nat.lt_of_lt_of_le (hRhi k hk) hs1) (And.intro hFR hFhi)))))
        clear hbx hX1 hc0 hr0 hRlo hRhi hFR hFhi hc1 hr1 X U H hs1 c0 c1 c2 c3
        go_cut [7] (fun s7 wc => ∃ l' : List (Int × List Int), l'.length ≤ k + 1 ∧ PlayIn true w (.pointer none) s7 l' wc ∧ wc.cell? ⟨wr.heap.size, 3, none⟩ = some (.int .u64 o.ask))
        case first =>
          cases hb4 : (o.act % 5 == 4)
          · go_wp2_with fail
            refine (CV.out W1 Q.out.1.below).mono ?_
            rintro e w2 ⟨ua, rfl, hua, hb2⟩
            have NU := (Nums.of_own hua).slice
            obtain ⟨aq, ac, rfl, hac1, hac2, -, -⟩ := NU
            have hx9 : xs.length ≤ 9223372036854775807 := by omega
            have z1 := below_cells hb2 y1
            have z2 := below_cells hb2 y2
            have z3 := below_cells hb2 y3
            have PV0 := putV (Q.out.1.step hb2) (by omega) o.stamp fs1 xs _ (Nums.of_own hua) (by omega)
            rw [show putN true l o.stamp xs = (6, l) from rfl] at PV0
            have PV := Lib.hid PV0
            clear PV0
            have S2 := Lib.hid (And.intro hua hb2)
            clear hua hb2 y1 y2 y3 hac1 hac2
            go_wp2_with fail
            refine PV.out.mono ?_
            rintro e w3 ⟨rfl, hc3, hm3⟩
            obtain ⟨m1, m2, m3, m4⟩ := put_mid Q.out.1 Q.out.2.1 Q.out.2.2.2.1 Q.out.2.2.2.2.1 S2.out.2 S2.out.1 hc3 hm3
            have kk : ∀ a : Addr, a.block = wr.heap.size → w3.cell? a = w2.cell? a := fun a ha => World.cell?_of_block (by rw [ha]; exact hm3.block _ (lt_of_cell z3) fun hf => by have := Q.out.2.2.2.2.2 _ hf; omega)
            have t1 : w3.cell? ⟨wr.heap.size, 1, none⟩ = some (.int .u64 o.stamp) := by rw [kk _ rfl]; exact z1
            have t2 : w3.cell? ⟨wr.heap.size, 2, none⟩ = some (.slice up o.vec.length uc) := by rw [kk _ rfl]; exact z2
            have t3 : w3.cell? ⟨wr.heap.size, 3, none⟩ = some (.int .u64 o.ask) := by rw [kk _ rfl]; exact z3
            have s13 : W1.heap.size ≤ w3.heap.size := by have := S2.out.2.size; have := hm3.size; omega
            have Y3 := Lib.hid (And.intro hc3 (And.intro m1 (And.intro m2 (And.intro m3 m4))))
            generalize Plus F w2 w3 = F3 at *
            clear z1 z2 z3 PV hc3 hm3 m1 m2 m3 m4 kk
            obtain ⟨w6, hw6⟩ : ∃ w6, w6 = w3 := ⟨_, rfl⟩
            have E6 := Lib.hid (show Below w.heap.size w w6 ∧ Apart true w (.pointer none) u7 (.slice aq xs.length ac) l w6 ∧ w6.ownsRow W1.heap.size 21 1 (.slice aq xs.length ac) xs.length (xs.map (Value.int .i32)) from by
              rw [hw6]
              exact ⟨Y3.out.1.below, ⟨F3, R, Y3.out.1, Y3.out.2.1, Q.out.2.2.1, fun k hk => Nat.lt_of_lt_of_le (Q.out.2.2.2.1 k hk) s13, Y3.out.2.2.2.1, fun b hb => ⟨by have := (Y3.out.2.2.1.lt b hb).1; have := Q.out.1.below.size; omega, Y3.out.2.2.2.2 b hb⟩⟩, Y3.out.2.2.1⟩)
            have t6 := t3
            have r6 := t2
            have s16 := s13
            rw [← hw6] at t6 r6 s16 ⊢
            clear hw6 t1 t2 t3 s13
            go_wp2_with fail
            refine (CV.out w6 E6.out.1).mono ?_
            rintro e w7 ⟨ub, rfl, hub, hb7⟩
            have SV := Lib.hid (sameVecOne xs _ _ w7 ((Nums.of_own E6.out.2.2).below hb7) (Nums.of_own hub))
            have AP := Lib.hid (E6.out.2.1.step hb7)
            have UA := Lib.hid (own_below E6.out.2.2 hb7)
            have t7 := below_cells hb7 t6
            have s7 := hb7.size
            clear t6 r6 hub hb7
            go_wp2_with fail
            refine SV.out.mono ?_
            rintro e w8 ⟨rfl, hd8⟩
            have AP8 := Lib.hid (AP.out.step hd8.below)
            have UA8 := Lib.hid (own_below UA.out hd8.below)
            have t8 := below_cells hd8.below t7
            have s8 : W1.heap.size ≤ w8.heap.size := by have := hd8.below.size; omega
            clear t7 hd8
            go_wp2_with fail
            generalize wr.heap.size = bk at *
            go_loopg [90] xs.length (fun q i wi => ∃ (j : Nat) (ys : List Int), q = xs.length - j ∧ j ≤ xs.length ∧ i = .int .i64 j ∧ wi.ownsRow W1.heap.size 21 1 (.slice aq xs.length ac) xs.length (ys.map (Value.int .i32)) ∧ ys.length = xs.length ∧ Mod (fun k => (Value.slice aq xs.length ac).ownBlock = some k) w8 wi)
            case atStart => exact ⟨0, xs, rfl, by omega, rfl, UA8.out, rfl, Mod.refl _ _⟩
            case round =>
              obtain ⟨j, ys, rfl, hj, rfl, hown, hyl, hmod⟩ := hrel
              by_cases hjl : j < xs.length
              · obtain ⟨g, gc, he, hg1, hg2⟩ := hown.form (by omega)
                obtain ⟨rfl, -, rfl⟩ := Value.slice.inj he
                obtain ⟨y0, d0⟩ : ∃ y : Int, wr.cell? ⟨g, j, none⟩ = some (.int .i32 y) := by
                  have c0 := hown.cellAt j (by omega)
                  rw [List.getElem?_map, List.getElem?_eq_getElem (by omega)] at c0
                  exact ⟨_, c0⟩
                have f0 := hown.frozenAt j
                have Z := Lib.hid (And.intro hown (And.intro hyl hmod))
                clear hown hyl hmod he
                go_wp2_with fail
                go_roundg (xs.length - (j + 1))
                case measure => omega
                case rel => exact ⟨j + 1, _, rfl, by omega, by go_num, own_store Z.out.1 hjl _, by simpa using Z.out.2.1, Z.out.2.2.setCell (p := ⟨g, j, Option.none⟩) (.inl rfl) _⟩
              · obtain rfl : xs.length = j := by omega
                have P9 := Lib.hid (AP8.out.write hmod)
                have t9 : wr.cell? ⟨bk, 3, none⟩ = some (.int .u64 o.ask) := by
                  rw [World.cell?_of_block (hmod.block bk (lt_of_cell t8) fun hf => by have := (UA8.out.lt _ hf).1; omega)]; exact t8
                clear hown hyl hmod
                go_wp2_with fail
                go_meet
                exact ⟨_, (by omega), P9.out.play, t9⟩
          · go_wp2_with fail
            refine (refSweep l Q.out.1.good.rising o.stamp u7 R W1 Q.out.2.1 (by omega)).mono ?_
            rintro e w2 ⟨v1, v2, rfl, hr2, hv2, hvb, hb2⟩
            have S2 := Lib.hid (And.intro hr2 (And.intro hv2 (And.intro hvb hb2)))
            have z1 := below_cells hb2 y1
            have z3 := below_cells hb2 y3
            have SW := Lib.hid (sweepV (Q.out.1.step hb2) (by omega) o.stamp)
            clear hr2 hv2 hvb hb2 y1 y2 y3
            go_wp2_with fail
            refine SW.out.mono ?_
            rintro e w3 ⟨v3, rfl, hv3, hc3, hm3⟩
            obtain ⟨hp3, hn3⟩ := PlayIn.swept Q.out.1 Q.out.2.2.1 Q.out.2.2.2.1 Q.out.2.2.2.2.1 S2.out.2.2.2 S2.out.1 S2.out.2.1 S2.out.2.2.1 hc3 hm3
            have P3 := Lib.hid hp3
            have t3 : w3.cell? ⟨wr.heap.size, 3, none⟩ = some (.int .u64 o.ask) := by
              rw [World.cell?_of_block (hm3.block wr.heap.size (lt_of_cell z3) fun hf => by have := Q.out.2.2.2.2.2 _ hf; omega)]; exact z3
            have SN := Lib.hid (sameNumsOne _ _ _ w3 hv3 hn3)
            clear z1 z3 SW hv3 hc3 hm3 hp3 hn3
            go_wp2_with fail
            refine SN.out.mono ?_
            rintro e w4 ⟨rfl, hd4⟩
            have D4 := Lib.hid hd4.below
            clear hd4
            go_wp2_with fail
            go_meet
            exact ⟨_, by simp; omega, P3.out.step D4.out, below_cells D4.out t3⟩
        case rest =>
          obtain ⟨l', hl', hP', t3⟩ := hcut
          obtain ⟨F', R', hc, hr, hRlo, hRhi, hFR⟩ := hP'
          have GD := Lib.hid hc.good
          obtain ⟨q7, c7, rfl, hq1, hq2, -, -⟩ := id hr
          have hl9' : l'.length ≤ 9223372036854775807 := by omega
          have RZ := Lib.hid (ratZ_eq (s := o.ask) hc.good.rising)
          have C0 := Lib.hid hc
          have D0 := Lib.hid (And.intro hr (And.intro hRlo (And.intro hRhi hFR)))
          clear CV Q y1 y2 y3 xb hc hr hRlo hRhi hFR hq1 hq2 F R W1 hx10 xs
          go_wp2_with fail
          refine (atV C0.out (by omega) o.ask).mono ?_
          rintro e wa ⟨va, rfl, hva, hba⟩
          have C1 := Lib.hid (C0.out.step hba)
          have R1 := Lib.hid (D0.out.1.agree (Agree.of_below hba D0.out.2.2.1))
          have h1 : ∀ k, R' k → k < wa.heap.size := fun k hk => Nat.lt_of_lt_of_le (D0.out.2.2.1 k hk) hba.size
          have H1 := Lib.hid h1
          have V1 := Lib.hid (Nums.of_own hva)
          have t4 := below_cells hba t3
          clear hva hba t3 h1
          go_wp2_with fail
          refine (refAt l' o.ask _ R' wa R1.out).mono ?_
          rw [RZ.out]
          rintro e wb ⟨vb, rfl, hvb, -, hbb⟩
          obtain ⟨bq, bc, rfl, hbq1, hbq2, -, -⟩ := id hvb.slice
          have hx9 : (atZ o.ask l').length ≤ 9223372036854775807 := by omega
          have C2 := Lib.hid (C1.out.step hbb)
          have hr2 := R1.out.agree (Agree.of_below hbb H1.out)
          have R2 := Lib.hid hr2
          have H2 := Lib.hid (fun k hk => Nat.lt_of_lt_of_le (H1.out k hk) hbb.size)
          have SV := Lib.hid (sameVecOne _ _ _ wb (V1.out.below hbb) hvb)
          clear hvb hbb hbq1 hbq2 t4
          generalize atZ o.ask l' = xs at *
          go_upto_if 113 with fail
          go_cut [18] (fun s18 we => s18 = .int .u64 (lastZ l') ∧ we = wb)
          case first =>
            by_cases h0 : l'.length = 0
            · have hz : l'.length ≤ 0 := by omega
              have e0 : l' = [] := List.eq_nil_of_length_eq_zero h0
              have e1 : lastZ l' = 0 := by rw [e0]; rfl
              have E1 := Lib.hid e1
              clear e1 e0 h0 hr2
              go_wp2_with fail
              go_meet
              exact ⟨by rw [E1.out], rfl⟩
            · have hz : 1 ≤ l'.length := by omega
              obtain ⟨bb, off2, uu, rfl, -, d0, d1, -, -⟩ := hr2.elem (i := l'.length - 1) (by omega)
              have hne : l' ≠ [] := fun e => h0 (by rw [e]; rfl)
              have E1 := Lib.hid (show lastZ l' = l'[l'.length - 1].1 by unfold lastZ; rw [List.getLast?_eq_some_getLast hne, List.getLast_eq_getElem])
              clear d1 hne hr2
              go_wp2_with fail
              go_meet
              exact ⟨by rw [E1.out], rfl⟩
          case rest =>
            obtain ⟨rfl, rfl⟩ := hcut
            clear hr2
            go_wp2_with fail
            refine SV.out.mono ?_
            rintro e wd ⟨rfl, hd⟩
            have C3 := Lib.hid (C2.out.step hd.below)
            have R3 := Lib.hid (R2.out.agree (Agree.of_below hd.below H2.out))
            have H3 := Lib.hid (fun k hk => Nat.lt_of_lt_of_le (H2.out k hk) hd.below.size)
            clear hd SV
            go_wp2_with fail
            refine (listV C3.out (by omega)).mono ?_
            rintro e wf ⟨lv, lrs, rfl, hlo, hlh, hbf⟩
            have L4 := Lib.hid (Recs.of_own hlo hlh)
            have C4 := Lib.hid (C3.out.step hbf)
            have R4 := Lib.hid (R3.out.agree (Agree.of_below hbf H3.out))
            have H4 := Lib.hid (fun k hk => Nat.lt_of_lt_of_le (H3.out k hk) hbf.size)
            clear hlo hlh hbf
            go_wp2_with fail
            refine (back l' lv _ wf L4.out.toF (by omega)).mono ?_
            rintro e wg ⟨bv, rfl, hbr, hbg⟩
            have C5 := Lib.hid (C4.out.step hbg)
            have R5 := Lib.hid (R4.out.agree (Agree.of_below hbg H4.out))
            have H5 := Lib.hid (fun k hk => Nat.lt_of_lt_of_le (H4.out k hk) hbg.size)
            have SR := Lib.hid (sameVersOne l' _ _ wg hbr.recs (R5.out.recs))
            clear hbr hbg
            go_wp2_with fail
            refine SR.out.mono ?_
            rintro e wh ⟨rfl, hd⟩
            have C6 := Lib.hid (C5.out.step hd.below)
            have R6 := Lib.hid (R5.out.agree (Agree.of_below hd.below H5.out))
            have H6 := Lib.hid (fun k hk => Nat.lt_of_lt_of_le (H5.out k hk) hd.below.size)
            clear hd SR
            go_wp2_with fail
            refine (lastV C6.out (by omega)).mono ?_
            rintro e wi ⟨rfl, hd⟩
            have C7 := Lib.hid (C6.out.step hd.below)
            have R7 := Lib.hid (R6.out.agree (Agree.of_below hd.below H6.out))
            have H7 := Lib.hid (fun k hk => Nat.lt_of_lt_of_le (H6.out k hk) hd.below.size)
            clear hd
            go_wp2_with fail
            refine (lenV C7.out (by omega)).mono ?_
            rintro e wj ⟨rfl, rfl⟩
            go_wp2_with fail
            go_roundg (m.length - (k + 1))
            case measure => omega
            case rel => exact ⟨k + 1, l', rfl, by omega, by omega, by go_num, hl', F', R', C7.out, R7.out, D0.out.2.1, H7.out, D0.out.2.2.2⟩
      · by_cases hlt : k < m.length
        · obtain rfl : 40 = k := by omega
          obtain ⟨b, off, u, rfl, c0, c1, c2, c3, hu⟩ := (H.out.below hbw).elem hlt
          obtain ⟨up, uc, rfl, -, -, -, -⟩ := id hu.slice
          have BW := Lib.hid (hbw.alloc hbw.size (Obj.cells #[Value.int IntKind.u8 m[40].act, Value.int IntKind.u64 m[40].stamp, Value.slice up m[40].vec.length uc, Value.int IntKind.u64 m[40].ask] 32))
          clear hP hbw hu
          go_wp2_with fail
          go_ret
          exact ⟨rfl, BW.out⟩
        · obtain rfl : m.length = k := by omega
          have BW := Lib.hid hbw
          clear hP hbw
          go_wp2_with fail
          go_ret
          exact ⟨rfl, BW.out⟩

end Go.Proofs.Ytpoophimfjfgkaa
