/-
  best's law: BestPlays, with no room at all: walked.
-/
import Derived.Test.YtfjhipaoljnfaaaPlayB
namespace Go.Proofs.Ytfjhipaoljnfaaa
open Go.RowKit


set_option maxRecDepth 100000 in
set_option maxHeartbeats 16000000 in
theorem bestPlays_out (most : Int) (hm : most < 1 ∨ 256 < most) (ls0 : List (List Hz)) (v : Value) (w : World) (h : ListsF w (fun _ => True) v ls0) :
    Calls Try.prog 8 #[.int .i64 most, v] w fun e w' => e = .returned (.bool true) ∧ Below w.heap.size w w' := by
  obtain ⟨p, cap, rfl, hcap, hbig, -, -⟩ := id h
  have hl9 : ls0.length ≤ 9223372036854775807 := by omega
  have H := Lib.hid h
  clear h hcap hbig
  rcases hm with o1 | o2
  · skip
    go_enter Try.func8, Try.ntmps8
    go_wp2_with fail
    refine (awake_true w).mono ?_
    rintro e w1 ⟨rfl, hb1⟩
    have B1 := Lib.hid hb1
    have hs1 := hb1.size
    clear hb1
    go_wp2_with fail
    refine (new_no most w1 (by omega)).mono ?_
    rintro e w2 ⟨rfl, hw2⟩
    subst hw2
    go_wp2_with fail
    go_loopg [60] ls0.length (fun q' i wr => ∃ k : Nat, q' = ls0.length - k ∧ k ≤ ls0.length ∧ i = .int .i64 k ∧ Below w.heap.size w wr)
    case atStart => exact ⟨0, rfl, by omega, rfl, B1.out⟩
    case round =>
      obtain ⟨k, rfl, hk, rfl, hb⟩ := hrel
      have M := Lib.hid hb
      clear hb
      by_cases hlt : k < ls0.length
      · by_cases h20 : k < 20
        · have g20 : decide ((20 : Int) ≤ (k : Int)) = false := decide_eq_false (by omega)
          obtain ⟨b, off, q, qc, rfl, c0, hhit⟩ := H.out.elem hlt
          replace c0 := below_cells M.out c0
          have RH := Lib.hid (show Calls Try.prog 12 #[.slice q ls0[k].length qc, .int .i64 12] wr (NewHits wr 35 (hitsZ 12 ls0[k])) from refHits 12 (by omega) ls0[k] _ _ wr (hhit.below M.out))
          clear hhit
          obtain ⟨wo, rfl⟩ : ∃ wo : World, wo = wr := ⟨_, rfl⟩
          go_wp2_with fail
          refine RH.out.mono ?_
          rintro e wp ⟨vp, rsp, rfl, hop, hhp, hbp⟩
          have hl12 : (hitsZ 12 ls0[k]).length ≤ 12 := by rw [hitsZ_length]; omega
          have hidem := hitsZ_idem 12 ls0[k]
          have hp := Lib.hid (And.intro (HitsF.of_own (F := fun k => wo.heap.size ≤ k ∧ k < wp.heap.size) hop (fun b hb => hop.lt b hb) hhp.rows) hbp)
          generalize hitsZ 12 ls0[k] = l at *
          clear hop hhp hbp RH c0
          obtain ⟨qp, cp, rfl, -, -, -, -⟩ := id hp.out.1
          have RM := Lib.hid (show Calls Try.prog 12 #[.slice qp l.length cp, .int .i64 12] wp (NewHits wp 35 (hitsZ 12 l)) from refHits 12 (by omega) l _ _ wp hp.out.1)
          rw [hidem] at RM
          clear hidem
          go_wp2_with fail
          refine RM.out.mono ?_
          rintro e w4 ⟨vm, rsm, rfl, hom, hhm, hbm⟩
          have hm := Lib.hid (And.intro (HitsF.of_own (F := fun k => wp.heap.size ≤ k ∧ k < w4.heap.size) hom (fun b hb => hom.lt b hb) hhm.rows) hbm)
          obtain ⟨lens, FS0⟩ : ∃ lens, Hid (FlipS w4 wp.heap.size w4.heap.size l.length vm rsm lens) := ⟨_, Lib.hid (FlipS.start hom hhm)⟩
          obtain ⟨qm, cm, rfl, -, -, -, -⟩ := id hm.out.1
          have hsp := hp.out.2.size
          have hsm := hm.out.2.size
          have M4 := Lib.hid (M.out.trans ((hp.out.2.trans (hm.out.2.mono hsp)).mono M.out.size))
          clear hom hhm hbm RM
          go_wp2_with fail
          go_loopg [11, 73] l.length (fun q' acc i wr => ∃ j : Nat, q' = l.length - j ∧ j ≤ l.length ∧ i = .int .i64 j ∧ acc = .int .i64 0 ∧ Below w4.heap.size w4 wr)
          case atStart => exact ⟨0, rfl, by omega, rfl, rfl, Below.refl _ _⟩
          case round =>
            obtain ⟨j, rfl, hj, rfl, rfl, hmod⟩ := hrel
            have R := Lib.hid hmod
            have hsz := hmod.size
            clear hmod
            have hpr := (hp.out.1.below hm.out.2).below R.out
            by_cases hlj : j < l.length
            · obtain ⟨rs', -, -, hel⟩ := hpr.rows
              obtain ⟨pb, poff, pup, puc, -, rfl, -, -, d0, d1, d2, hu, -⟩ := hel j hlj
              have hb1 := Lib.hid ((Below.refl wr.heap.size wr).alloc (Nat.le_refl _) (Obj.cells #[Value.int IntKind.u64 l[j].id, Value.int IntKind.u64 l[j].dist, Value.slice pup l[j].vec.length puc] 35))
              clear hel hu hpr
              go_wp2_with fail
              refine (refAdd_nil _ _ _ _).mono ?_
              rintro e w6 ⟨rfl, hR6⟩
              have X := Lib.hid (R.out.trans ((hb1.out.trans (hR6.mono hb1.out.size)).mono hsz))
              clear hR6
              go_wp2_with fail
              go_roundg (l.length - (j + 1))
              case measure => omega
              case rel => exact ⟨j + 1, rfl, by omega, by go_num, rfl, X.out⟩
            · obtain rfl : j = l.length := by omega
              have hsw := hm.out.2.size
              have PM6 := Lib.hid (And.intro hpr (hm.out.1.below R.out))
              have FS6 := Lib.hid (FS0.out.keep (w' := wr) fun q h1 h2 => R.out.block q h2)
              have BW6 := Lib.hid (M4.out.trans (R.out.mono M4.out.size))
              have SM := Lib.hid (sameHits_self _ _ l _ _ wr PM6.out.2 PM6.out.1)
              clear hpr
              go_wp2_with fail
              refine (adds_nil _ _).mono ?_
              rintro e w6 ⟨rfl, rfl⟩
              go_wp2_with fail
              refine SM.out.mono ?_
              rintro e w7 ⟨rfl, hd7⟩
              have b67 := hd7.below
              have FSt := Lib.hid (FS6.out.keep (w' := w7) fun q h1 h2 => b67.block q (by omega))
              have BW7 := Lib.hid (BW6.out.trans (b67.mono BW6.out.size))
              have hs7 := b67.size
              clear hd7 b67 SM
              go_wp2_with fail
              go_loopg [96] l.length (fun q' i wr => ∃ k, q' = l.length - k ∧ k ≤ l.length ∧ i = .int .i64 k ∧ FlipS wr wp.heap.size w4.heap.size l.length (.slice qm l.length cm) rsm lens ∧ Mod (fun k => wp.heap.size ≤ k ∧ k < w4.heap.size) w7 wr)
              case atStart => exact ⟨0, rfl, by omega, rfl, FSt.out, Mod.refl _ _⟩
              case round =>
                obtain ⟨fk, rfl, hfk, rfl, hFS, hFm⟩ := hrel
                have F1 := Lib.hid (And.intro hFS hFm)
                clear hFS hFm
                by_cases hflt : fk < l.length
                · obtain ⟨fg, fcg, fq, fcap, hfv, fc2, hbl, -⟩ := F1.out.1.at hflt
                  obtain ⟨rfl, -, rfl⟩ := Value.slice.inj hfv
                  have f0 : (0 : Int) ≤ (fk : Int) := by omega
                  have f1 : (fk : Int) < (l.length : Int) := by omega
                  clear hfv
                  obtain ⟨wm, rfl⟩ : ∃ wm : World, wm = wr := ⟨_, rfl⟩
                  go_wp2_with fail
                  go_loopg [105] (lens fk) (fun q' i wr => ∃ c, q' = lens fk - c ∧ c ≤ lens fk ∧ i = .int .i64 c ∧ FlipS wr wp.heap.size w4.heap.size l.length (.slice (some ⟨fg, 0, none⟩) l.length cm) rsm lens ∧ Mod (fun k => wp.heap.size ≤ k ∧ k < w4.heap.size) w7 wr)
                  case atStart => exact ⟨0, rfl, by omega, rfl, F1.out.1, F1.out.2⟩
                  case round =>
                    obtain ⟨fc, rfl, hfc, rfl, hFS2, hFm2⟩ := hrel
                    have F2 := Lib.hid (And.intro hFS2 hFm2)
                    clear hFS2 hFm2
                    by_cases hfct : fc < lens fk
                    · obtain ⟨g', cg', fq2, fcap2, hv2, gc2, -, hcells⟩ := F2.out.1.at hflt
                      obtain ⟨hgg, -, -⟩ := Value.slice.inj hv2
                      obtain rfl : fg = g' := by simpa using hgg
                      obtain ⟨fb, fx, rfl, hlo, hhi, d0, df, hfl⟩ := hcells fc hfct
                      have FL := Lib.hid (And.intro hfl (And.intro hlo hhi))
                      have h0 : (0 : Int) ≤ (fc : Int) := by omega
                      have h1 : (fc : Int) < (lens fk : Int) := by omega
                      clear hv2 hgg hcells hfl hlo hhi
                      go_wp2_with fail
                      go_roundg (lens fk - (fc + 1))
                      case measure => omega
                      case rel => exact ⟨fc + 1, rfl, by omega, by go_num, FL.out.1 _, F2.out.2.setCell (.inl FL.out.2) _⟩
                    · obtain rfl : lens fk = fc := by omega
                      go_wp2_with fail
                      go_roundg (l.length - (fk + 1))
                      case measure => omega
                      case rel => exact ⟨fk + 1, rfl, by omega, by go_num, F2.out.1, F2.out.2⟩
                · obtain rfl : l.length = fk := by omega
                  have hs8 := F1.out.2.size
                  have BW8 := Lib.hid (BW7.out.trans (F1.out.2.below (B := w.heap.size) (by have := BW7.out.size; omega) fun q hq => by have := M.out.size; omega))
                  clear F1 FSt BW7 FS6 PM6
                  go_wp2_with fail
                  refine (refAll_nil _).mono ?_
                  rintro e w9 ⟨rfl, rfl⟩
                  go_wp2_with fail
                  refine (hits_nil _).mono ?_
                  rintro e w10 ⟨vg, rsg, rfl, hog, hhg, hbg⟩
                  obtain rfl : rsg = [] := List.eq_nil_of_length_eq_zero hhg.len
                  have N10 := Lib.hid (HitsF.of_own (F := fun _ => True) hog (fun b hb => trivial) (hhg.rows.mono fun _ _ => trivial))
                  obtain ⟨qg, cg, rfl, -, -, -, -⟩ := id N10.out
                  have N10B := Lib.hid hbg
                  clear hog hhg hbg
                  go_wp2_with fail
                  refine (worst_nil _).mono ?_
                  rintro e w11 ⟨rfl, hb11⟩
                  have B11 := Lib.hid hb11
                  clear hb11
                  go_wp2_with fail
                  obtain ⟨W1, hW1⟩ : ∃ W1, W1 = (w11.alloc (.cells #[.int .u64 0, .int .u64 0, .slice none 0 0] 35)).drew := ⟨_, rfl⟩
                  have b0 : Below w11.heap.size w11 W1 := by rw [hW1]; exact ((Below.refl _ _).alloc (Nat.le_refl _) _).drew
                  have N1 := Lib.hid ((N10.out.below B11.out).below b0)
                  have hbd := Below.refl W1.heap.size W1
                  have HW := Lib.hid hW1
                  clear hW1
                  refine region_go (fun _ => True) (by kernel_rfl) ?hS0 (fun hH => ?_)
                  case hS0 =>
                    trivial
                  rw [← HW.out]
                  refine tkY (v := ?_) 0 hH rfl (fun _ _ _ h => h) ?hc ?hw ?hy ?_
                  case hc => decide +kernel
                  case hw => rfl
                  case hy => (intro w hS; (try dsimp only at hS); go_simp; try with_reducible rfl)
                  (try simp only [Act.put]); (repeat (first | simp only [List.setIfInBounds_toArray] | simp only [List.set_cons_zero] | simp only [List.set_cons_succ]))
                  refine tkY (v := ?_) 1 hH rfl (fun _ _ _ h => h) ?hc ?hw ?hy ?_
                  case hc => decide +kernel
                  case hw => rfl
                  case hy => (intro w hS; (try dsimp only at hS); go_simp; try with_reducible rfl)
                  (try simp only [Act.put]); (repeat (first | simp only [List.setIfInBounds_toArray] | simp only [List.set_cons_zero] | simp only [List.set_cons_succ]))
                  refine spk 2 rfl ?hr ?hw (fun K' hK => ?_)
                  case hr => decide +kernel
                  case hw => rfl
                  go_simp
                  refine (sameHits_self _ (fun _ => True) [] _ _ _ (N1.out.below hbd) (HitsF.nil _ _)).mono ?_
                  rintro e ws ⟨rfl, hds⟩
                  replace hbd := hbd.trans (hds.below.mono hbd.size)
                  clear hds
                  try dsimp only
                  refine hK.out _ _ ?hS (fun hH' => ?_)
                  case hS =>
                    trivial
                  clear hK K' hH; have hH := hH'; clear hH'; (try simp only [Act.put]); (repeat (first | simp only [List.setIfInBounds_toArray] | simp only [List.set_cons_zero] | simp only [List.set_cons_succ]))
                  refine tkY (v := ?_) 3 hH rfl (fun _ _ _ h => h) ?hc ?hw ?hy ?_
                  case hc => decide +kernel
                  case hw => rfl
                  case hy => (intro w hS; (try dsimp only at hS); go_simp; try with_reducible rfl)
                  (try simp only [Act.put]); (repeat (first | simp only [List.setIfInBounds_toArray] | simp only [List.set_cons_zero] | simp only [List.set_cons_succ]))
                  refine tkY (v := ?_) 4 hH rfl (fun _ _ _ h => h) ?hc ?hw ?hy ?_
                  case hc => decide +kernel
                  case hw => rfl
                  case hy => (intro w hS; (try dsimp only at hS); go_simp; try with_reducible rfl)
                  (try simp only [Act.put]); (repeat (first | simp only [List.setIfInBounds_toArray] | simp only [List.set_cons_zero] | simp only [List.set_cons_succ]))
                  refine tkY (v := ?_) 5 hH rfl (fun _ _ _ h => h) ?hc ?hw ?hy ?_
                  case hc => decide +kernel
                  case hw => rfl
                  case hy => (intro w hS; (try dsimp only at hS); go_simp; try with_reducible rfl)
                  (try simp only [Act.put]); (repeat (first | simp only [List.setIfInBounds_toArray] | simp only [List.set_cons_zero] | simp only [List.set_cons_succ]))
                  refine tkY (v := ?_) 7 hH rfl (fun _ _ _ h => h) ?hc ?hw ?hy ?_
                  case hc => decide +kernel
                  case hw => rfl
                  case hy => (intro w hS; (try dsimp only at hS); go_simp; try with_reducible rfl)
                  (try simp only [Act.put]); (repeat (first | simp only [List.setIfInBounds_toArray] | simp only [List.set_cons_zero] | simp only [List.set_cons_succ]))
                  refine tkY (v := ?_) 8 hH rfl (fun _ _ _ h => h) ?hc ?hw ?hy ?_
                  case hc => decide +kernel
                  case hw => rfl
                  case hy => (intro w hS; (try dsimp only at hS); go_simp; try with_reducible rfl)
                  (try simp only [Act.put]); (repeat (first | simp only [List.setIfInBounds_toArray] | simp only [List.set_cons_zero] | simp only [List.set_cons_succ]))
                  refine spk 6 rfl ?hr ?hw (fun K' hK => ?_)
                  case hr => decide +kernel
                  case hw => rfl
                  go_simp
                  refine (len_nil _).mono ?_
                  rintro e ws ⟨rfl, hws⟩
                  subst hws
                  try dsimp only
                  refine hK.out _ _ ?hS (fun hH' => ?_)
                  case hS =>
                    trivial
                  clear hK K' hH; have hH := hH'; clear hH'; (try simp only [Act.put]); (repeat (first | simp only [List.setIfInBounds_toArray] | simp only [List.set_cons_zero] | simp only [List.set_cons_succ]))
                  refine tkY (v := ?_) 9 hH rfl (fun _ _ _ h => h) ?hc ?hw ?hy ?_
                  case hc => decide +kernel
                  case hw => rfl
                  case hy => (intro w hS; (try dsimp only at hS); go_simp; try with_reducible rfl)
                  (try simp only [Act.put]); (repeat (first | simp only [List.setIfInBounds_toArray] | simp only [List.set_cons_zero] | simp only [List.set_cons_succ]))
                  refine tkY (v := ?_) 10 hH rfl (fun _ _ _ h => h) ?hc ?hw ?hy ?_
                  case hc => decide +kernel
                  case hw => rfl
                  case hy => (intro w hS; (try dsimp only at hS); go_simp; try with_reducible rfl)
                  (try simp only [Act.put]); (repeat (first | simp only [List.setIfInBounds_toArray] | simp only [List.set_cons_zero] | simp only [List.set_cons_succ]))
                  refine tkY (v := ?_) 11 hH rfl (fun _ _ _ h => h) ?hc ?hw ?hy ?_
                  case hc => decide +kernel
                  case hw => rfl
                  case hy => (intro w hS; (try dsimp only at hS); go_simp; try with_reducible rfl)
                  (try simp only [Act.put]); (repeat (first | simp only [List.setIfInBounds_toArray] | simp only [List.set_cons_zero] | simp only [List.set_cons_succ]))
                  refine tkY (v := ?_) 12 hH rfl (fun _ _ _ h => h) ?hc ?hw ?hy ?_
                  case hc => decide +kernel
                  case hw => rfl
                  case hy => (intro w hS; (try dsimp only at hS); go_simp; try with_reducible rfl)
                  (try simp only [Act.put]); (repeat (first | simp only [List.setIfInBounds_toArray] | simp only [List.set_cons_zero] | simp only [List.set_cons_succ]))
                  refine tkY (v := ?_) 13 hH rfl (fun _ _ _ h => h) ?hc ?hw ?hy ?_
                  case hc => decide +kernel
                  case hw => rfl
                  case hy => (intro w hS; (try dsimp only at hS); go_simp; try with_reducible rfl)
                  (try simp only [Act.put]); (repeat (first | simp only [List.setIfInBounds_toArray] | simp only [List.set_cons_zero] | simp only [List.set_cons_succ]))
                  refine tkY (v := ?_) 14 hH rfl (fun _ _ _ h => h) ?hc ?hw ?hy ?_
                  case hc => decide +kernel
                  case hw => rfl
                  case hy => (intro w hS; (try dsimp only at hS); go_simp; try with_reducible rfl)
                  (try simp only [Act.put]); (repeat (first | simp only [List.setIfInBounds_toArray] | simp only [List.set_cons_zero] | simp only [List.set_cons_succ]))
                  refine tkY (v := ?_) 15 hH rfl (fun _ _ _ h => h) ?hc ?hw ?hy ?_
                  case hc => decide +kernel
                  case hw => rfl
                  case hy => (intro w hS; (try dsimp only at hS); go_simp; try with_reducible rfl)
                  (try simp only [Act.put]); (repeat (first | simp only [List.setIfInBounds_toArray] | simp only [List.set_cons_zero] | simp only [List.set_cons_succ]))
                  refine tkY (v := ?_) 16 hH rfl (fun _ _ _ h => h) ?hc ?hw ?hy ?_
                  case hc => decide +kernel
                  case hw => rfl
                  case hy => (intro w hS; (try dsimp only at hS); go_simp; try with_reducible rfl)
                  (try simp only [Act.put]); (repeat (first | simp only [List.setIfInBounds_toArray] | simp only [List.set_cons_zero] | simp only [List.set_cons_succ]))
                  refine tkY (v := ?_) 17 hH rfl (fun _ _ _ h => h) ?hc ?hw ?hy ?_
                  case hc => decide +kernel
                  case hw => rfl
                  case hy => (intro w hS; (try dsimp only at hS); go_simp; try with_reducible rfl)
                  (try simp only [Act.put]); (repeat (first | simp only [List.setIfInBounds_toArray] | simp only [List.set_cons_zero] | simp only [List.set_cons_succ]))
                  refine tkY (v := ?_) 18 hH rfl (fun _ _ _ h => h) ?hc ?hw ?hy ?_
                  case hc => decide +kernel
                  case hw => rfl
                  case hy => (intro w hS; (try dsimp only at hS); go_simp; try with_reducible rfl)
                  (try simp only [Act.put]); (repeat (first | simp only [List.setIfInBounds_toArray] | simp only [List.set_cons_zero] | simp only [List.set_cons_succ]))
                  refine tkY (v := ?_) 19 hH rfl (fun _ _ _ h => h) ?hc ?hw ?hy ?_
                  case hc => decide +kernel
                  case hw => rfl
                  case hy => (intro w hS; (try dsimp only at hS); go_simp; try with_reducible rfl)
                  (try simp only [Act.put]); (repeat (first | simp only [List.setIfInBounds_toArray] | simp only [List.set_cons_zero] | simp only [List.set_cons_succ]))
                  refine tkY (v := ?_) 20 hH rfl (fun _ _ _ h => h) ?hc ?hw ?hy ?_
                  case hc => decide +kernel
                  case hw => rfl
                  case hy => (intro w hS; (try dsimp only at hS); go_simp; try with_reducible rfl)
                  (try simp only [Act.put]); (repeat (first | simp only [List.setIfInBounds_toArray] | simp only [List.set_cons_zero] | simp only [List.set_cons_succ]))
                  refine tkN 21 hH rfl (fun _ _ _ h => h) ?hc ?hw ?_
                  case hc => decide +kernel
                  case hw => rfl
                  (try simp only [Act.put]); (repeat (first | simp only [List.setIfInBounds_toArray] | simp only [List.set_cons_zero] | simp only [List.set_cons_succ]))
                  refine tkN 23 hH rfl (fun _ _ _ h => h) ?hc ?hw ?_
                  case hc => decide +kernel
                  case hw => rfl
                  (try simp only [Act.put]); (repeat (first | simp only [List.setIfInBounds_toArray] | simp only [List.set_cons_zero] | simp only [List.set_cons_succ]))
                  refine tkN 24 hH rfl (fun _ _ _ h => h) ?hc ?hw ?_
                  case hc => decide +kernel
                  case hw => rfl
                  (try simp only [Act.put]); (repeat (first | simp only [List.setIfInBounds_toArray] | simp only [List.set_cons_zero] | simp only [List.set_cons_succ]))
                  refine tkN 25 hH rfl (fun _ _ _ h => h) ?hc ?hw ?_
                  case hc => decide +kernel
                  case hw => rfl
                  (try simp only [Act.put]); (repeat (first | simp only [List.setIfInBounds_toArray] | simp only [List.set_cons_zero] | simp only [List.set_cons_succ]))
                  refine tkN 26 hH rfl (fun _ _ _ h => h) ?hc ?hw ?_
                  case hc => decide +kernel
                  case hw => rfl
                  (try simp only [Act.put]); (repeat (first | simp only [List.setIfInBounds_toArray] | simp only [List.set_cons_zero] | simp only [List.set_cons_succ]))
                  refine tkN 27 hH rfl (fun _ _ _ h => h) ?hc ?hw ?_
                  case hc => decide +kernel
                  case hw => rfl
                  (try simp only [Act.put]); (repeat (first | simp only [List.setIfInBounds_toArray] | simp only [List.set_cons_zero] | simp only [List.set_cons_succ]))
                  refine tkN 22 hH rfl (fun _ _ _ h => h) ?hc ?hw ?_
                  case hc => decide +kernel
                  case hw => rfl
                  (try simp only [Act.put]); (repeat (first | simp only [List.setIfInBounds_toArray] | simp only [List.set_cons_zero] | simp only [List.set_cons_succ]))
                  refine tkN 28 hH rfl (fun _ _ _ h => h) ?hc ?hw ?_
                  case hc => decide +kernel
                  case hw => rfl
                  (try simp only [Act.put]); (repeat (first | simp only [List.setIfInBounds_toArray] | simp only [List.set_cons_zero] | simp only [List.set_cons_succ]))
                  refine tkN 29 hH rfl (fun _ _ _ h => h) ?hc ?hw ?_
                  case hc => decide +kernel
                  case hw => rfl
                  (try simp only [Act.put]); (repeat (first | simp only [List.setIfInBounds_toArray] | simp only [List.set_cons_zero] | simp only [List.set_cons_succ]))
                  refine tkY (v := ?_) 30 hH rfl (fun _ _ _ h => h) ?hc ?hw ?hy ?_
                  case hc => decide +kernel
                  case hw => rfl
                  case hy => (intro w hS; (try dsimp only at hS); go_simp; try with_reducible rfl)
                  (try simp only [Act.put]); (repeat (first | simp only [List.setIfInBounds_toArray] | simp only [List.set_cons_zero] | simp only [List.set_cons_succ]))
                  refine tkY (v := ?_) 31 hH rfl (fun _ _ _ h => h) ?hc ?hw ?hy ?_
                  case hc => decide +kernel
                  case hw => rfl
                  case hy => (intro w hS; (try dsimp only at hS); go_simp; try with_reducible rfl)
                  (try simp only [Act.put]); (repeat (first | simp only [List.setIfInBounds_toArray] | simp only [List.set_cons_zero] | simp only [List.set_cons_succ]))
                  refine tkY (v := ?_) 32 hH rfl (fun _ _ _ h => h) ?hc ?hw ?hy ?_
                  case hc => decide +kernel
                  case hw => rfl
                  case hy => (intro w hS; (try dsimp only at hS); go_simp; try with_reducible rfl)
                  (try simp only [Act.put]); (repeat (first | simp only [List.setIfInBounds_toArray] | simp only [List.set_cons_zero] | simp only [List.set_cons_succ]))
                  refine tkY (v := ?_) 33 hH rfl (fun _ _ _ h => h) ?hc ?hw ?hy ?_
                  case hc => decide +kernel
                  case hw => rfl
                  case hy => (intro w hS; (try dsimp only at hS); go_simp; try with_reducible rfl)
                  (try simp only [Act.put]); (repeat (first | simp only [List.setIfInBounds_toArray] | simp only [List.set_cons_zero] | simp only [List.set_cons_succ]))
                  refine tkY (v := ?_) 35 hH rfl (fun _ _ _ h => h) ?hc ?hw ?hy ?_
                  case hc => decide +kernel
                  case hw => rfl
                  case hy => (intro w hS; (try dsimp only at hS); go_simp; try with_reducible rfl)
                  (try simp only [Act.put]); (repeat (first | simp only [List.setIfInBounds_toArray] | simp only [List.set_cons_zero] | simp only [List.set_cons_succ]))
                  refine tkY (v := ?_) 36 hH rfl (fun _ _ _ h => h) ?hc ?hw ?hy ?_
                  case hc => decide +kernel
                  case hw => rfl
                  case hy => (intro w hS; (try dsimp only at hS); go_simp; try with_reducible rfl)
                  (try simp only [Act.put]); (repeat (first | simp only [List.setIfInBounds_toArray] | simp only [List.set_cons_zero] | simp only [List.set_cons_succ]))
                  refine spk 34 rfl ?hr ?hw (fun K' hK => ?_)
                  case hr => decide +kernel
                  case hw => rfl
                  go_simp
                  refine (full_nil _).mono ?_
                  rintro e ws ⟨rfl, hds⟩
                  replace hbd := hbd.trans (hds.below.mono hbd.size)
                  clear hds
                  try dsimp only
                  refine hK.out _ _ ?hS (fun hH' => ?_)
                  case hS =>
                    trivial
                  clear hK K' hH; have hH := hH'; clear hH'; (try simp only [Act.put]); (repeat (first | simp only [List.setIfInBounds_toArray] | simp only [List.set_cons_zero] | simp only [List.set_cons_succ]))
                  refine tkY (v := ?_) 37 hH rfl (fun _ _ _ h => h) ?hc ?hw ?hy ?_
                  case hc => decide +kernel
                  case hw => rfl
                  case hy => (intro w hS; (try dsimp only at hS); go_simp; try with_reducible rfl)
                  (try simp only [Act.put]); (repeat (first | simp only [List.setIfInBounds_toArray] | simp only [List.set_cons_zero] | simp only [List.set_cons_succ]))
                  refine tkN 38 hH rfl (fun _ _ _ h => h) ?hc ?hw ?_
                  case hc => decide +kernel
                  case hw => rfl
                  (try simp only [Act.put]); (repeat (first | simp only [List.setIfInBounds_toArray] | simp only [List.set_cons_zero] | simp only [List.set_cons_succ]))
                  refine tkN 39 hH rfl (fun _ _ _ h => h) ?hc ?hw ?_
                  case hc => decide +kernel
                  case hw => rfl
                  (try simp only [Act.put]); (repeat (first | simp only [List.setIfInBounds_toArray] | simp only [List.set_cons_zero] | simp only [List.set_cons_succ]))
                  refine tkN 40 hH rfl (fun _ _ _ h => h) ?hc ?hw ?_
                  case hc => decide +kernel
                  case hw => rfl
                  (try simp only [Act.put]); (repeat (first | simp only [List.setIfInBounds_toArray] | simp only [List.set_cons_zero] | simp only [List.set_cons_succ]))
                  refine tkN 41 hH rfl (fun _ _ _ h => h) ?hc ?hw ?_
                  case hc => decide +kernel
                  case hw => rfl
                  (try simp only [Act.put]); (repeat (first | simp only [List.setIfInBounds_toArray] | simp only [List.set_cons_zero] | simp only [List.set_cons_succ]))
                  refine tkY (v := ?_) 42 hH rfl (fun _ _ _ h => h) ?hc ?hw ?hy ?_
                  case hc => decide +kernel
                  case hw => rfl
                  case hy => (intro w hS; (try dsimp only at hS); go_simp; try with_reducible rfl)
                  (try simp only [Act.put]); (repeat (first | simp only [List.setIfInBounds_toArray] | simp only [List.set_cons_zero] | simp only [List.set_cons_succ]))
                  refine tkY (v := ?_) 43 hH rfl (fun _ _ _ h => h) ?hc ?hw ?hy ?_
                  case hc => decide +kernel
                  case hw => rfl
                  case hy => (intro w hS; (try dsimp only at hS); go_simp; try with_reducible rfl)
                  (try simp only [Act.put]); (repeat (first | simp only [List.setIfInBounds_toArray] | simp only [List.set_cons_zero] | simp only [List.set_cons_succ]))
                  refine tkY (v := ?_) 44 hH rfl (fun _ _ _ h => h) ?hc ?hw ?hy ?_
                  case hc => decide +kernel
                  case hw => rfl
                  case hy => (intro w hS; (try dsimp only at hS); go_simp; try with_reducible rfl)
                  (try simp only [Act.put]); (repeat (first | simp only [List.setIfInBounds_toArray] | simp only [List.set_cons_zero] | simp only [List.set_cons_succ]))
                  refine wpAnyH_done (by decide +kernel) ?_ _
                  have BD := Lib.hid (b0.trans (hbd.mono b0.size))
                  have BWs := Lib.hid (BW8.out.trans ((N10B.out.trans ((B11.out.trans (BD.out.mono B11.out.size)).mono N10B.out.size)).mono BW8.out.size))
                  clear hH hbd HW b0 N1
                  go_wp2_with fail
                  go_loopg [176] 0 (fun q' i wr => q' = 0 ∧ wr = ws ∧ i = .int .i64 0)
                  case atStart => exact ⟨rfl, rfl, rfl⟩
                  case round =>
                    obtain ⟨rfl, rfl, rfl⟩ := hrel
                    go_wp2_with fail
                    go_roundg (ls0.length - (k + 1))
                    case measure => omega
                    case rel => exact ⟨k + 1, rfl, by omega, by go_num, BWs.out⟩
        · have g20 : decide ((20 : Int) ≤ (k : Int)) = true := decide_eq_true (by omega)
          obtain ⟨b, off, q, qc, rfl, c0, hhit⟩ := H.out.elem hlt
          replace c0 := below_cells M.out c0
          clear hhit
          go_wp2_with fail
          go_ret
          exact ⟨rfl, M.out⟩
      · obtain rfl : k = ls0.length := by omega
        go_wp2_with fail
        go_ret
        exact ⟨rfl, M.out⟩
  · have o1 : (1 : Int) ≤ most := by omega
    go_enter Try.func8, Try.ntmps8
    go_wp2_with fail
    refine (awake_true w).mono ?_
    rintro e w1 ⟨rfl, hb1⟩
    have B1 := Lib.hid hb1
    have hs1 := hb1.size
    clear hb1
    go_wp2_with fail
    refine (new_no most w1 (by omega)).mono ?_
    rintro e w2 ⟨rfl, hw2⟩
    subst hw2
    go_wp2_with fail
    go_loopg [60] ls0.length (fun q' i wr => ∃ k : Nat, q' = ls0.length - k ∧ k ≤ ls0.length ∧ i = .int .i64 k ∧ Below w.heap.size w wr)
    case atStart => exact ⟨0, rfl, by omega, rfl, B1.out⟩
    case round =>
      obtain ⟨k, rfl, hk, rfl, hb⟩ := hrel
      have M := Lib.hid hb
      clear hb
      by_cases hlt : k < ls0.length
      · by_cases h20 : k < 20
        · have g20 : decide ((20 : Int) ≤ (k : Int)) = false := decide_eq_false (by omega)
          obtain ⟨b, off, q, qc, rfl, c0, hhit⟩ := H.out.elem hlt
          replace c0 := below_cells M.out c0
          have RH := Lib.hid (show Calls Try.prog 12 #[.slice q ls0[k].length qc, .int .i64 12] wr (NewHits wr 35 (hitsZ 12 ls0[k])) from refHits 12 (by omega) ls0[k] _ _ wr (hhit.below M.out))
          clear hhit
          obtain ⟨wo, rfl⟩ : ∃ wo : World, wo = wr := ⟨_, rfl⟩
          go_wp2_with fail
          refine RH.out.mono ?_
          rintro e wp ⟨vp, rsp, rfl, hop, hhp, hbp⟩
          have hl12 : (hitsZ 12 ls0[k]).length ≤ 12 := by rw [hitsZ_length]; omega
          have hidem := hitsZ_idem 12 ls0[k]
          have hp := Lib.hid (And.intro (HitsF.of_own (F := fun k => wo.heap.size ≤ k ∧ k < wp.heap.size) hop (fun b hb => hop.lt b hb) hhp.rows) hbp)
          generalize hitsZ 12 ls0[k] = l at *
          clear hop hhp hbp RH c0
          obtain ⟨qp, cp, rfl, -, -, -, -⟩ := id hp.out.1
          have RM := Lib.hid (show Calls Try.prog 12 #[.slice qp l.length cp, .int .i64 12] wp (NewHits wp 35 (hitsZ 12 l)) from refHits 12 (by omega) l _ _ wp hp.out.1)
          rw [hidem] at RM
          clear hidem
          go_wp2_with fail
          refine RM.out.mono ?_
          rintro e w4 ⟨vm, rsm, rfl, hom, hhm, hbm⟩
          have hm := Lib.hid (And.intro (HitsF.of_own (F := fun k => wp.heap.size ≤ k ∧ k < w4.heap.size) hom (fun b hb => hom.lt b hb) hhm.rows) hbm)
          obtain ⟨lens, FS0⟩ : ∃ lens, Hid (FlipS w4 wp.heap.size w4.heap.size l.length vm rsm lens) := ⟨_, Lib.hid (FlipS.start hom hhm)⟩
          obtain ⟨qm, cm, rfl, -, -, -, -⟩ := id hm.out.1
          have hsp := hp.out.2.size
          have hsm := hm.out.2.size
          have M4 := Lib.hid (M.out.trans ((hp.out.2.trans (hm.out.2.mono hsp)).mono M.out.size))
          clear hom hhm hbm RM
          go_wp2_with fail
          go_loopg [11, 73] l.length (fun q' acc i wr => ∃ j : Nat, q' = l.length - j ∧ j ≤ l.length ∧ i = .int .i64 j ∧ acc = .int .i64 0 ∧ Below w4.heap.size w4 wr)
          case atStart => exact ⟨0, rfl, by omega, rfl, rfl, Below.refl _ _⟩
          case round =>
            obtain ⟨j, rfl, hj, rfl, rfl, hmod⟩ := hrel
            have R := Lib.hid hmod
            have hsz := hmod.size
            clear hmod
            have hpr := (hp.out.1.below hm.out.2).below R.out
            by_cases hlj : j < l.length
            · obtain ⟨rs', -, -, hel⟩ := hpr.rows
              obtain ⟨pb, poff, pup, puc, -, rfl, -, -, d0, d1, d2, hu, -⟩ := hel j hlj
              have hb1 := Lib.hid ((Below.refl wr.heap.size wr).alloc (Nat.le_refl _) (Obj.cells #[Value.int IntKind.u64 l[j].id, Value.int IntKind.u64 l[j].dist, Value.slice pup l[j].vec.length puc] 35))
              clear hel hu hpr
              go_wp2_with fail
              refine (refAdd_nil _ _ _ _).mono ?_
              rintro e w6 ⟨rfl, hR6⟩
              have X := Lib.hid (R.out.trans ((hb1.out.trans (hR6.mono hb1.out.size)).mono hsz))
              clear hR6
              go_wp2_with fail
              go_roundg (l.length - (j + 1))
              case measure => omega
              case rel => exact ⟨j + 1, rfl, by omega, by go_num, rfl, X.out⟩
            · obtain rfl : j = l.length := by omega
              have hsw := hm.out.2.size
              have PM6 := Lib.hid (And.intro hpr (hm.out.1.below R.out))
              have FS6 := Lib.hid (FS0.out.keep (w' := wr) fun q h1 h2 => R.out.block q h2)
              have BW6 := Lib.hid (M4.out.trans (R.out.mono M4.out.size))
              have SM := Lib.hid (sameHits_self _ _ l _ _ wr PM6.out.2 PM6.out.1)
              clear hpr
              go_wp2_with fail
              refine (adds_nil _ _).mono ?_
              rintro e w6 ⟨rfl, rfl⟩
              go_wp2_with fail
              refine SM.out.mono ?_
              rintro e w7 ⟨rfl, hd7⟩
              have b67 := hd7.below
              have FSt := Lib.hid (FS6.out.keep (w' := w7) fun q h1 h2 => b67.block q (by omega))
              have BW7 := Lib.hid (BW6.out.trans (b67.mono BW6.out.size))
              have hs7 := b67.size
              clear hd7 b67 SM
              go_wp2_with fail
              go_loopg [96] l.length (fun q' i wr => ∃ k, q' = l.length - k ∧ k ≤ l.length ∧ i = .int .i64 k ∧ FlipS wr wp.heap.size w4.heap.size l.length (.slice qm l.length cm) rsm lens ∧ Mod (fun k => wp.heap.size ≤ k ∧ k < w4.heap.size) w7 wr)
              case atStart => exact ⟨0, rfl, by omega, rfl, FSt.out, Mod.refl _ _⟩
              case round =>
                obtain ⟨fk, rfl, hfk, rfl, hFS, hFm⟩ := hrel
                have F1 := Lib.hid (And.intro hFS hFm)
                clear hFS hFm
                by_cases hflt : fk < l.length
                · obtain ⟨fg, fcg, fq, fcap, hfv, fc2, hbl, -⟩ := F1.out.1.at hflt
                  obtain ⟨rfl, -, rfl⟩ := Value.slice.inj hfv
                  have f0 : (0 : Int) ≤ (fk : Int) := by omega
                  have f1 : (fk : Int) < (l.length : Int) := by omega
                  clear hfv
                  obtain ⟨wm, rfl⟩ : ∃ wm : World, wm = wr := ⟨_, rfl⟩
                  go_wp2_with fail
                  go_loopg [105] (lens fk) (fun q' i wr => ∃ c, q' = lens fk - c ∧ c ≤ lens fk ∧ i = .int .i64 c ∧ FlipS wr wp.heap.size w4.heap.size l.length (.slice (some ⟨fg, 0, none⟩) l.length cm) rsm lens ∧ Mod (fun k => wp.heap.size ≤ k ∧ k < w4.heap.size) w7 wr)
                  case atStart => exact ⟨0, rfl, by omega, rfl, F1.out.1, F1.out.2⟩
                  case round =>
                    obtain ⟨fc, rfl, hfc, rfl, hFS2, hFm2⟩ := hrel
                    have F2 := Lib.hid (And.intro hFS2 hFm2)
                    clear hFS2 hFm2
                    by_cases hfct : fc < lens fk
                    · obtain ⟨g', cg', fq2, fcap2, hv2, gc2, -, hcells⟩ := F2.out.1.at hflt
                      obtain ⟨hgg, -, -⟩ := Value.slice.inj hv2
                      obtain rfl : fg = g' := by simpa using hgg
                      obtain ⟨fb, fx, rfl, hlo, hhi, d0, df, hfl⟩ := hcells fc hfct
                      have FL := Lib.hid (And.intro hfl (And.intro hlo hhi))
                      have h0 : (0 : Int) ≤ (fc : Int) := by omega
                      have h1 : (fc : Int) < (lens fk : Int) := by omega
                      clear hv2 hgg hcells hfl hlo hhi
                      go_wp2_with fail
                      go_roundg (lens fk - (fc + 1))
                      case measure => omega
                      case rel => exact ⟨fc + 1, rfl, by omega, by go_num, FL.out.1 _, F2.out.2.setCell (.inl FL.out.2) _⟩
                    · obtain rfl : lens fk = fc := by omega
                      go_wp2_with fail
                      go_roundg (l.length - (fk + 1))
                      case measure => omega
                      case rel => exact ⟨fk + 1, rfl, by omega, by go_num, F2.out.1, F2.out.2⟩
                · obtain rfl : l.length = fk := by omega
                  have hs8 := F1.out.2.size
                  have BW8 := Lib.hid (BW7.out.trans (F1.out.2.below (B := w.heap.size) (by have := BW7.out.size; omega) fun q hq => by have := M.out.size; omega))
                  clear F1 FSt BW7 FS6 PM6
                  go_wp2_with fail
                  refine (refAll_nil _).mono ?_
                  rintro e w9 ⟨rfl, rfl⟩
                  go_wp2_with fail
                  refine (hits_nil _).mono ?_
                  rintro e w10 ⟨vg, rsg, rfl, hog, hhg, hbg⟩
                  obtain rfl : rsg = [] := List.eq_nil_of_length_eq_zero hhg.len
                  have N10 := Lib.hid (HitsF.of_own (F := fun _ => True) hog (fun b hb => trivial) (hhg.rows.mono fun _ _ => trivial))
                  obtain ⟨qg, cg, rfl, -, -, -, -⟩ := id N10.out
                  have N10B := Lib.hid hbg
                  clear hog hhg hbg
                  go_wp2_with fail
                  refine (worst_nil _).mono ?_
                  rintro e w11 ⟨rfl, hb11⟩
                  have B11 := Lib.hid hb11
                  clear hb11
                  go_wp2_with fail
                  obtain ⟨W1, hW1⟩ : ∃ W1, W1 = (w11.alloc (.cells #[.int .u64 0, .int .u64 0, .slice none 0 0] 35)).drew := ⟨_, rfl⟩
                  have b0 : Below w11.heap.size w11 W1 := by rw [hW1]; exact ((Below.refl _ _).alloc (Nat.le_refl _) _).drew
                  have N1 := Lib.hid ((N10.out.below B11.out).below b0)
                  have hbd := Below.refl W1.heap.size W1
                  have HW := Lib.hid hW1
                  clear hW1
                  refine region_go (fun _ => True) (by kernel_rfl) ?hS0 (fun hH => ?_)
                  case hS0 =>
                    trivial
                  rw [← HW.out]
                  refine tkY (v := ?_) 0 hH rfl (fun _ _ _ h => h) ?hc ?hw ?hy ?_
                  case hc => decide +kernel
                  case hw => rfl
                  case hy => (intro w hS; (try dsimp only at hS); go_simp; try with_reducible rfl)
                  (try simp only [Act.put]); (repeat (first | simp only [List.setIfInBounds_toArray] | simp only [List.set_cons_zero] | simp only [List.set_cons_succ]))
                  refine tkY (v := ?_) 1 hH rfl (fun _ _ _ h => h) ?hc ?hw ?hy ?_
                  case hc => decide +kernel
                  case hw => rfl
                  case hy => (intro w hS; (try dsimp only at hS); go_simp; try with_reducible rfl)
                  (try simp only [Act.put]); (repeat (first | simp only [List.setIfInBounds_toArray] | simp only [List.set_cons_zero] | simp only [List.set_cons_succ]))
                  refine spk 2 rfl ?hr ?hw (fun K' hK => ?_)
                  case hr => decide +kernel
                  case hw => rfl
                  go_simp
                  refine (sameHits_self _ (fun _ => True) [] _ _ _ (N1.out.below hbd) (HitsF.nil _ _)).mono ?_
                  rintro e ws ⟨rfl, hds⟩
                  replace hbd := hbd.trans (hds.below.mono hbd.size)
                  clear hds
                  try dsimp only
                  refine hK.out _ _ ?hS (fun hH' => ?_)
                  case hS =>
                    trivial
                  clear hK K' hH; have hH := hH'; clear hH'; (try simp only [Act.put]); (repeat (first | simp only [List.setIfInBounds_toArray] | simp only [List.set_cons_zero] | simp only [List.set_cons_succ]))
                  refine tkY (v := ?_) 3 hH rfl (fun _ _ _ h => h) ?hc ?hw ?hy ?_
                  case hc => decide +kernel
                  case hw => rfl
                  case hy => (intro w hS; (try dsimp only at hS); go_simp; try with_reducible rfl)
                  (try simp only [Act.put]); (repeat (first | simp only [List.setIfInBounds_toArray] | simp only [List.set_cons_zero] | simp only [List.set_cons_succ]))
                  refine tkY (v := ?_) 4 hH rfl (fun _ _ _ h => h) ?hc ?hw ?hy ?_
                  case hc => decide +kernel
                  case hw => rfl
                  case hy => (intro w hS; (try dsimp only at hS); go_simp; try with_reducible rfl)
                  (try simp only [Act.put]); (repeat (first | simp only [List.setIfInBounds_toArray] | simp only [List.set_cons_zero] | simp only [List.set_cons_succ]))
                  refine tkY (v := ?_) 5 hH rfl (fun _ _ _ h => h) ?hc ?hw ?hy ?_
                  case hc => decide +kernel
                  case hw => rfl
                  case hy => (intro w hS; (try dsimp only at hS); go_simp; try with_reducible rfl)
                  (try simp only [Act.put]); (repeat (first | simp only [List.setIfInBounds_toArray] | simp only [List.set_cons_zero] | simp only [List.set_cons_succ]))
                  refine tkY (v := ?_) 7 hH rfl (fun _ _ _ h => h) ?hc ?hw ?hy ?_
                  case hc => decide +kernel
                  case hw => rfl
                  case hy => (intro w hS; (try dsimp only at hS); go_simp; try with_reducible rfl)
                  (try simp only [Act.put]); (repeat (first | simp only [List.setIfInBounds_toArray] | simp only [List.set_cons_zero] | simp only [List.set_cons_succ]))
                  refine tkY (v := ?_) 8 hH rfl (fun _ _ _ h => h) ?hc ?hw ?hy ?_
                  case hc => decide +kernel
                  case hw => rfl
                  case hy => (intro w hS; (try dsimp only at hS); go_simp; try with_reducible rfl)
                  (try simp only [Act.put]); (repeat (first | simp only [List.setIfInBounds_toArray] | simp only [List.set_cons_zero] | simp only [List.set_cons_succ]))
                  refine spk 6 rfl ?hr ?hw (fun K' hK => ?_)
                  case hr => decide +kernel
                  case hw => rfl
                  go_simp
                  refine (len_nil _).mono ?_
                  rintro e ws ⟨rfl, hws⟩
                  subst hws
                  try dsimp only
                  refine hK.out _ _ ?hS (fun hH' => ?_)
                  case hS =>
                    trivial
                  clear hK K' hH; have hH := hH'; clear hH'; (try simp only [Act.put]); (repeat (first | simp only [List.setIfInBounds_toArray] | simp only [List.set_cons_zero] | simp only [List.set_cons_succ]))
                  refine tkY (v := ?_) 9 hH rfl (fun _ _ _ h => h) ?hc ?hw ?hy ?_
                  case hc => decide +kernel
                  case hw => rfl
                  case hy => (intro w hS; (try dsimp only at hS); go_simp; try with_reducible rfl)
                  (try simp only [Act.put]); (repeat (first | simp only [List.setIfInBounds_toArray] | simp only [List.set_cons_zero] | simp only [List.set_cons_succ]))
                  refine tkY (v := ?_) 10 hH rfl (fun _ _ _ h => h) ?hc ?hw ?hy ?_
                  case hc => decide +kernel
                  case hw => rfl
                  case hy => (intro w hS; (try dsimp only at hS); go_simp; try with_reducible rfl)
                  (try simp only [Act.put]); (repeat (first | simp only [List.setIfInBounds_toArray] | simp only [List.set_cons_zero] | simp only [List.set_cons_succ]))
                  refine tkY (v := ?_) 11 hH rfl (fun _ _ _ h => h) ?hc ?hw ?hy ?_
                  case hc => decide +kernel
                  case hw => rfl
                  case hy => (intro w hS; (try dsimp only at hS); go_simp; try with_reducible rfl)
                  (try simp only [Act.put]); (repeat (first | simp only [List.setIfInBounds_toArray] | simp only [List.set_cons_zero] | simp only [List.set_cons_succ]))
                  refine tkY (v := ?_) 12 hH rfl (fun _ _ _ h => h) ?hc ?hw ?hy ?_
                  case hc => decide +kernel
                  case hw => rfl
                  case hy => (intro w hS; (try dsimp only at hS); go_simp; try with_reducible rfl)
                  (try simp only [Act.put]); (repeat (first | simp only [List.setIfInBounds_toArray] | simp only [List.set_cons_zero] | simp only [List.set_cons_succ]))
                  refine tkY (v := ?_) 13 hH rfl (fun _ _ _ h => h) ?hc ?hw ?hy ?_
                  case hc => decide +kernel
                  case hw => rfl
                  case hy => (intro w hS; (try dsimp only at hS); go_simp; try with_reducible rfl)
                  (try simp only [Act.put]); (repeat (first | simp only [List.setIfInBounds_toArray] | simp only [List.set_cons_zero] | simp only [List.set_cons_succ]))
                  refine tkY (v := ?_) 14 hH rfl (fun _ _ _ h => h) ?hc ?hw ?hy ?_
                  case hc => decide +kernel
                  case hw => rfl
                  case hy => (intro w hS; (try dsimp only at hS); go_simp; try with_reducible rfl)
                  (try simp only [Act.put]); (repeat (first | simp only [List.setIfInBounds_toArray] | simp only [List.set_cons_zero] | simp only [List.set_cons_succ]))
                  refine tkY (v := ?_) 15 hH rfl (fun _ _ _ h => h) ?hc ?hw ?hy ?_
                  case hc => decide +kernel
                  case hw => rfl
                  case hy => (intro w hS; (try dsimp only at hS); go_simp; try with_reducible rfl)
                  (try simp only [Act.put]); (repeat (first | simp only [List.setIfInBounds_toArray] | simp only [List.set_cons_zero] | simp only [List.set_cons_succ]))
                  refine tkY (v := ?_) 16 hH rfl (fun _ _ _ h => h) ?hc ?hw ?hy ?_
                  case hc => decide +kernel
                  case hw => rfl
                  case hy => (intro w hS; (try dsimp only at hS); go_simp; try with_reducible rfl)
                  (try simp only [Act.put]); (repeat (first | simp only [List.setIfInBounds_toArray] | simp only [List.set_cons_zero] | simp only [List.set_cons_succ]))
                  refine tkY (v := ?_) 17 hH rfl (fun _ _ _ h => h) ?hc ?hw ?hy ?_
                  case hc => decide +kernel
                  case hw => rfl
                  case hy => (intro w hS; (try dsimp only at hS); go_simp; try with_reducible rfl)
                  (try simp only [Act.put]); (repeat (first | simp only [List.setIfInBounds_toArray] | simp only [List.set_cons_zero] | simp only [List.set_cons_succ]))
                  refine tkY (v := ?_) 18 hH rfl (fun _ _ _ h => h) ?hc ?hw ?hy ?_
                  case hc => decide +kernel
                  case hw => rfl
                  case hy => (intro w hS; (try dsimp only at hS); go_simp; try with_reducible rfl)
                  (try simp only [Act.put]); (repeat (first | simp only [List.setIfInBounds_toArray] | simp only [List.set_cons_zero] | simp only [List.set_cons_succ]))
                  refine tkY (v := ?_) 19 hH rfl (fun _ _ _ h => h) ?hc ?hw ?hy ?_
                  case hc => decide +kernel
                  case hw => rfl
                  case hy => (intro w hS; (try dsimp only at hS); go_simp; try with_reducible rfl)
                  (try simp only [Act.put]); (repeat (first | simp only [List.setIfInBounds_toArray] | simp only [List.set_cons_zero] | simp only [List.set_cons_succ]))
                  refine tkY (v := ?_) 20 hH rfl (fun _ _ _ h => h) ?hc ?hw ?hy ?_
                  case hc => decide +kernel
                  case hw => rfl
                  case hy => (intro w hS; (try dsimp only at hS); go_simp; try with_reducible rfl)
                  (try simp only [Act.put]); (repeat (first | simp only [List.setIfInBounds_toArray] | simp only [List.set_cons_zero] | simp only [List.set_cons_succ]))
                  refine tkN 21 hH rfl (fun _ _ _ h => h) ?hc ?hw ?_
                  case hc => decide +kernel
                  case hw => rfl
                  (try simp only [Act.put]); (repeat (first | simp only [List.setIfInBounds_toArray] | simp only [List.set_cons_zero] | simp only [List.set_cons_succ]))
                  refine tkN 23 hH rfl (fun _ _ _ h => h) ?hc ?hw ?_
                  case hc => decide +kernel
                  case hw => rfl
                  (try simp only [Act.put]); (repeat (first | simp only [List.setIfInBounds_toArray] | simp only [List.set_cons_zero] | simp only [List.set_cons_succ]))
                  refine tkN 24 hH rfl (fun _ _ _ h => h) ?hc ?hw ?_
                  case hc => decide +kernel
                  case hw => rfl
                  (try simp only [Act.put]); (repeat (first | simp only [List.setIfInBounds_toArray] | simp only [List.set_cons_zero] | simp only [List.set_cons_succ]))
                  refine tkN 25 hH rfl (fun _ _ _ h => h) ?hc ?hw ?_
                  case hc => decide +kernel
                  case hw => rfl
                  (try simp only [Act.put]); (repeat (first | simp only [List.setIfInBounds_toArray] | simp only [List.set_cons_zero] | simp only [List.set_cons_succ]))
                  refine tkN 26 hH rfl (fun _ _ _ h => h) ?hc ?hw ?_
                  case hc => decide +kernel
                  case hw => rfl
                  (try simp only [Act.put]); (repeat (first | simp only [List.setIfInBounds_toArray] | simp only [List.set_cons_zero] | simp only [List.set_cons_succ]))
                  refine tkN 27 hH rfl (fun _ _ _ h => h) ?hc ?hw ?_
                  case hc => decide +kernel
                  case hw => rfl
                  (try simp only [Act.put]); (repeat (first | simp only [List.setIfInBounds_toArray] | simp only [List.set_cons_zero] | simp only [List.set_cons_succ]))
                  refine tkN 22 hH rfl (fun _ _ _ h => h) ?hc ?hw ?_
                  case hc => decide +kernel
                  case hw => rfl
                  (try simp only [Act.put]); (repeat (first | simp only [List.setIfInBounds_toArray] | simp only [List.set_cons_zero] | simp only [List.set_cons_succ]))
                  refine tkN 28 hH rfl (fun _ _ _ h => h) ?hc ?hw ?_
                  case hc => decide +kernel
                  case hw => rfl
                  (try simp only [Act.put]); (repeat (first | simp only [List.setIfInBounds_toArray] | simp only [List.set_cons_zero] | simp only [List.set_cons_succ]))
                  refine tkN 29 hH rfl (fun _ _ _ h => h) ?hc ?hw ?_
                  case hc => decide +kernel
                  case hw => rfl
                  (try simp only [Act.put]); (repeat (first | simp only [List.setIfInBounds_toArray] | simp only [List.set_cons_zero] | simp only [List.set_cons_succ]))
                  refine tkY (v := ?_) 30 hH rfl (fun _ _ _ h => h) ?hc ?hw ?hy ?_
                  case hc => decide +kernel
                  case hw => rfl
                  case hy => (intro w hS; (try dsimp only at hS); go_simp; try with_reducible rfl)
                  (try simp only [Act.put]); (repeat (first | simp only [List.setIfInBounds_toArray] | simp only [List.set_cons_zero] | simp only [List.set_cons_succ]))
                  refine tkY (v := ?_) 31 hH rfl (fun _ _ _ h => h) ?hc ?hw ?hy ?_
                  case hc => decide +kernel
                  case hw => rfl
                  case hy => (intro w hS; (try dsimp only at hS); go_simp; try with_reducible rfl)
                  (try simp only [Act.put]); (repeat (first | simp only [List.setIfInBounds_toArray] | simp only [List.set_cons_zero] | simp only [List.set_cons_succ]))
                  refine tkY (v := ?_) 32 hH rfl (fun _ _ _ h => h) ?hc ?hw ?hy ?_
                  case hc => decide +kernel
                  case hw => rfl
                  case hy => (intro w hS; (try dsimp only at hS); go_simp; try with_reducible rfl)
                  (try simp only [Act.put]); (repeat (first | simp only [List.setIfInBounds_toArray] | simp only [List.set_cons_zero] | simp only [List.set_cons_succ]))
                  refine tkY (v := ?_) 33 hH rfl (fun _ _ _ h => h) ?hc ?hw ?hy ?_
                  case hc => decide +kernel
                  case hw => rfl
                  case hy => (intro w hS; (try dsimp only at hS); go_simp; try with_reducible rfl)
                  (try simp only [Act.put]); (repeat (first | simp only [List.setIfInBounds_toArray] | simp only [List.set_cons_zero] | simp only [List.set_cons_succ]))
                  refine tkY (v := ?_) 35 hH rfl (fun _ _ _ h => h) ?hc ?hw ?hy ?_
                  case hc => decide +kernel
                  case hw => rfl
                  case hy => (intro w hS; (try dsimp only at hS); go_simp; try with_reducible rfl)
                  (try simp only [Act.put]); (repeat (first | simp only [List.setIfInBounds_toArray] | simp only [List.set_cons_zero] | simp only [List.set_cons_succ]))
                  refine tkY (v := ?_) 36 hH rfl (fun _ _ _ h => h) ?hc ?hw ?hy ?_
                  case hc => decide +kernel
                  case hw => rfl
                  case hy => (intro w hS; (try dsimp only at hS); go_simp; try with_reducible rfl)
                  (try simp only [Act.put]); (repeat (first | simp only [List.setIfInBounds_toArray] | simp only [List.set_cons_zero] | simp only [List.set_cons_succ]))
                  refine spk 34 rfl ?hr ?hw (fun K' hK => ?_)
                  case hr => decide +kernel
                  case hw => rfl
                  go_simp
                  refine (full_nil _).mono ?_
                  rintro e ws ⟨rfl, hds⟩
                  replace hbd := hbd.trans (hds.below.mono hbd.size)
                  clear hds
                  try dsimp only
                  refine hK.out _ _ ?hS (fun hH' => ?_)
                  case hS =>
                    trivial
                  clear hK K' hH; have hH := hH'; clear hH'; (try simp only [Act.put]); (repeat (first | simp only [List.setIfInBounds_toArray] | simp only [List.set_cons_zero] | simp only [List.set_cons_succ]))
                  refine tkY (v := ?_) 37 hH rfl (fun _ _ _ h => h) ?hc ?hw ?hy ?_
                  case hc => decide +kernel
                  case hw => rfl
                  case hy => (intro w hS; (try dsimp only at hS); go_simp; try with_reducible rfl)
                  (try simp only [Act.put]); (repeat (first | simp only [List.setIfInBounds_toArray] | simp only [List.set_cons_zero] | simp only [List.set_cons_succ]))
                  refine tkN 38 hH rfl (fun _ _ _ h => h) ?hc ?hw ?_
                  case hc => decide +kernel
                  case hw => rfl
                  (try simp only [Act.put]); (repeat (first | simp only [List.setIfInBounds_toArray] | simp only [List.set_cons_zero] | simp only [List.set_cons_succ]))
                  refine tkN 39 hH rfl (fun _ _ _ h => h) ?hc ?hw ?_
                  case hc => decide +kernel
                  case hw => rfl
                  (try simp only [Act.put]); (repeat (first | simp only [List.setIfInBounds_toArray] | simp only [List.set_cons_zero] | simp only [List.set_cons_succ]))
                  refine tkN 40 hH rfl (fun _ _ _ h => h) ?hc ?hw ?_
                  case hc => decide +kernel
                  case hw => rfl
                  (try simp only [Act.put]); (repeat (first | simp only [List.setIfInBounds_toArray] | simp only [List.set_cons_zero] | simp only [List.set_cons_succ]))
                  refine tkN 41 hH rfl (fun _ _ _ h => h) ?hc ?hw ?_
                  case hc => decide +kernel
                  case hw => rfl
                  (try simp only [Act.put]); (repeat (first | simp only [List.setIfInBounds_toArray] | simp only [List.set_cons_zero] | simp only [List.set_cons_succ]))
                  refine tkY (v := ?_) 42 hH rfl (fun _ _ _ h => h) ?hc ?hw ?hy ?_
                  case hc => decide +kernel
                  case hw => rfl
                  case hy => (intro w hS; (try dsimp only at hS); go_simp; try with_reducible rfl)
                  (try simp only [Act.put]); (repeat (first | simp only [List.setIfInBounds_toArray] | simp only [List.set_cons_zero] | simp only [List.set_cons_succ]))
                  refine tkY (v := ?_) 43 hH rfl (fun _ _ _ h => h) ?hc ?hw ?hy ?_
                  case hc => decide +kernel
                  case hw => rfl
                  case hy => (intro w hS; (try dsimp only at hS); go_simp; try with_reducible rfl)
                  (try simp only [Act.put]); (repeat (first | simp only [List.setIfInBounds_toArray] | simp only [List.set_cons_zero] | simp only [List.set_cons_succ]))
                  refine tkY (v := ?_) 44 hH rfl (fun _ _ _ h => h) ?hc ?hw ?hy ?_
                  case hc => decide +kernel
                  case hw => rfl
                  case hy => (intro w hS; (try dsimp only at hS); go_simp; try with_reducible rfl)
                  (try simp only [Act.put]); (repeat (first | simp only [List.setIfInBounds_toArray] | simp only [List.set_cons_zero] | simp only [List.set_cons_succ]))
                  refine wpAnyH_done (by decide +kernel) ?_ _
                  have BD := Lib.hid (b0.trans (hbd.mono b0.size))
                  have BWs := Lib.hid (BW8.out.trans ((N10B.out.trans ((B11.out.trans (BD.out.mono B11.out.size)).mono N10B.out.size)).mono BW8.out.size))
                  clear hH hbd HW b0 N1
                  go_wp2_with fail
                  go_loopg [176] 0 (fun q' i wr => q' = 0 ∧ wr = ws ∧ i = .int .i64 0)
                  case atStart => exact ⟨rfl, rfl, rfl⟩
                  case round =>
                    obtain ⟨rfl, rfl, rfl⟩ := hrel
                    go_wp2_with fail
                    go_roundg (ls0.length - (k + 1))
                    case measure => omega
                    case rel => exact ⟨k + 1, rfl, by omega, by go_num, BWs.out⟩
        · have g20 : decide ((20 : Int) ≤ (k : Int)) = true := decide_eq_true (by omega)
          obtain ⟨b, off, q, qc, rfl, c0, hhit⟩ := H.out.elem hlt
          replace c0 := below_cells M.out c0
          clear hhit
          go_wp2_with fail
          go_ret
          exact ⟨rfl, M.out⟩
      · obtain rfl : k = ls0.length := by omega
        go_wp2_with fail
        go_ret
        exact ⟨rfl, M.out⟩

theorem bestPlays (most : Int) (ls0 : List (List Hz)) (v : Value) (w : World) (h : ListsF w (fun _ => True) v ls0) :
    Calls Try.prog 8 #[.int .i64 most, v] w fun e w' => e = .returned (.bool true) ∧ Below w.heap.size w w' := by
  by_cases hm : most < 1 ∨ 256 < most
  · exact bestPlays_out most hm ls0 v w h
  · obtain ⟨n, rfl⟩ : ∃ n : Nat, most = n := ⟨most.toNat, by omega⟩
    exact bestPlays_in n (by omega) (by omega) ls0 v w h

end Go.Proofs.Ytfjhipaoljnfaaa
