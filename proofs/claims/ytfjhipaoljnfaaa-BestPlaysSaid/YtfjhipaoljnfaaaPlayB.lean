/-
  best's law: BestPlays, with room: walked.
-/
import Derived.Test.YtfjhipaoljnfaaaPlayA
import Derived.Test.YtfjhipaoljnfaaaRefI
namespace Go.Proofs.Ytfjhipaoljnfaaa
open Go.RowKit


set_option maxRecDepth 100000 in
set_option maxHeartbeats 16000000 in
theorem bestPlays_in (most : Nat) (hm1 : 1 ≤ most) (hm2 : most ≤ 256) (ls0 : List (List Hz)) (v : Value) (w : World) (h : ListsF w (fun _ => True) v ls0) :
    Calls Try.prog 8 #[.int .i64 most, v] w fun e w' => e = .returned (.bool true) ∧ Below w.heap.size w w' := by
  obtain ⟨p, cap, rfl, hcap, hbig, -, -⟩ := id h
  have hl9 : ls0.length ≤ 9223372036854775807 := by omega
  have H := Lib.hid h
  clear h hcap hbig
  have o1 : (1 : Int) ≤ (most : Int) := by omega
  have o2 : (most : Int) ≤ 256 := by omega
  go_enter Try.func8, Try.ntmps8
  go_wp2_with fail
  refine (awake_true w).mono ?_
  rintro e w1 ⟨rfl, hb1⟩
  have B1 := Lib.hid hb1
  have hs1 := hb1.size
  clear hb1
  go_wp2_with fail
  refine (new_yes most w1 (by omega) (by omega)).mono ?_
  rintro e w2 ⟨cl, rfl, hLa, hba⟩
  have A0 := Lib.hid (And.intro hLa hba)
  have hs2 := hba.size
  clear hLa hba
  go_wp2_with fail
  have hs20 := hs2
  have BT0 : Hid (Both (w2.alloc (.cells #[.int .i64 most, .slice none 0 0] 41)) w1.heap.size w.heap.size cl w2.heap.size most (Plus (fun _ => False) w1 w2) (fun k => k = w2.heap.size) []) := by
    refine ⟨A0.out.1.below ((Below.refl _ _).alloc (Nat.le_refl _) _), refL_new w2 most, fun k hk => ?_, fun k hk => by simp; omega, fun k hk => ?_, by simp; omega, GoodL.nil _⟩
    · rcases hk with hk | ⟨ha, hb⟩
      · exact hk.elim
      · exact ⟨by simp; omega, by omega⟩
    · rcases hk with (hk | ⟨ha, hb⟩) | hk
      · exact hk.elim
      · omega
      · omega
  have BW0 := Lib.hid ((B1.out.trans (A0.out.2.mono hs1)).alloc (o := .cells #[.int .i64 most, .slice none 0 0] 41) (by omega))
  obtain ⟨w3, hw3⟩ : ∃ w3, w3 = w2.alloc (.cells #[.int .i64 most, .slice none 0 0] 41) := ⟨_, rfl⟩
  rw [← hw3] at BT0 BW0 ⊢
  clear hw3
  go_loopg [60] ls0.length (fun q' i wr => ∃ (k : Nat) (L : List Hz) (FL FX : Nat → Prop), q' = ls0.length - k ∧ k ≤ ls0.length ∧ i = .int .i64 k ∧ Both wr w1.heap.size w.heap.size cl w2.heap.size most FL FX L ∧ Below w.heap.size w wr)
  case atStart => exact ⟨0, [], _, _, rfl, by omega, rfl, BT0.out, BW0.out⟩
  case round =>
    obtain ⟨k, L, FL, FX, rfl, hk, rfl, hM, hb⟩ := hrel
    have M := Lib.hid (And.intro hM hb)
    clear hM hb
    by_cases hlt : k < ls0.length
    · by_cases h20 : k < 20
      · have g20 : decide ((20 : Int) ≤ (k : Int)) = false := decide_eq_false (by omega)
        obtain ⟨b, off, q, qc, rfl, c0, hhit⟩ := H.out.elem hlt
        replace c0 := below_cells M.out.2 c0
        have RH := Lib.hid (show Calls Try.prog 12 #[.slice q ls0[k].length qc, .int .i64 12] wr (NewHits wr 35 (hitsZ 12 ls0[k])) from refHits 12 (by omega) ls0[k] _ _ wr (hhit.below M.out.2))
        clear hhit
        obtain ⟨wo, rfl⟩ : ∃ wo : World, wo = wr := ⟨_, rfl⟩
        go_wp2_with fail
        refine RH.out.mono ?_
        rintro e wp ⟨vp, rsp, rfl, hop, hhp, hbp⟩
        have hl12 : (hitsZ 12 ls0[k]).length ≤ 12 := by rw [hitsZ_length]; omega
        have hv8 := Lib.hid (fun h (hh : h ∈ hitsZ 12 ls0[k]) => hitsZ_vec hh)
        have hidem := hitsZ_idem 12 ls0[k]
        have hp := Lib.hid (And.intro (HitsF.of_own (F := fun k => wo.heap.size ≤ k ∧ k < wp.heap.size) hop (fun b hb => hop.lt b hb) hhp.rows) hbp)
        generalize hitsZ 12 ls0[k] = l at *
        clear hop hhp hbp RH c0
        obtain ⟨qp, cp, rfl, -, -, -, -⟩ := id hp.out.1
        have RM := Lib.hid (show Calls Try.prog 12 #[.slice qp l.length cp, .int .i64 12] wp (NewHits wp 35 (hitsZ 12 l)) from refHits 12 (by omega) l _ _ wp hp.out.1)
        rw [hidem] at RM
        clear hidem
        go_wp2_with fail
        refine RM.out.mono ?_
        rintro e w4 ⟨vm, rsm, rfl, hom, hhm, hbm⟩
        have hm := Lib.hid (And.intro (HitsF.of_own (F := fun k => wp.heap.size ≤ k ∧ k < w4.heap.size) hom (fun b hb => hom.lt b hb) hhm.rows) hbm)
        obtain ⟨lens, FS0⟩ : ∃ lens, Hid (FlipS w4 wp.heap.size w4.heap.size l.length vm rsm lens) := ⟨_, Lib.hid (FlipS.start hom hhm)⟩
        obtain ⟨qm, cm, rfl, -, -, -, -⟩ := id hm.out.1
        have hsp := hp.out.2.size
        have hsm := hm.out.2.size
        have M4 := Lib.hid (And.intro (M.out.1.below (hp.out.2.trans (hm.out.2.mono hsp))) (M.out.2.trans ((hp.out.2.trans (hm.out.2.mono hsp)).mono M.out.2.size)))
        clear hom hhm hbm RM
        go_wp2_with fail
        go_loopg [11, 73] l.length (fun q' acc i wr => ∃ j : Nat, q' = l.length - j ∧ j ≤ l.length ∧ i = .int .i64 j ∧ acc = .int .i64 (addsZ most L (l.take j)).1 ∧ RefL wr (fun k => FX k ∨ (w4.heap.size ≤ k ∧ k < wr.heap.size)) w2.heap.size most (addsZ most L (l.take j)).2 ∧ Mod (fun k => k = w2.heap.size) w4 wr)
        case atStart => exact ⟨0, rfl, by omega, rfl, rfl, M4.out.1.rl.mono fun _ => .inl, Mod.refl _ _⟩
        case round =>
          obtain ⟨j, rfl, hj, rfl, rfl, hR, hmod⟩ := hrel
          have R := Lib.hid (And.intro hR hmod)
          have hsz := hmod.size
          clear hR hmod
          have cxl := Lib.hid (M4.out.1.rh _ (by obtain ⟨_, _, _, _, _, h, _⟩ := M4.out.1.rl; exact h))
          have hpr := (hp.out.1.below hm.out.2).agree (Agree.of_mod R.out.2 (fun q hq => by have := hq.2; omega) fun q hq e => by
            have h1 := M.out.1.rh w2.heap.size (by obtain ⟨_, _, _, _, _, h, _⟩ := M.out.1.rl; exact h)
            have := hq.1; omega)
          by_cases hlj : j < l.length
          · obtain ⟨rs', -, -, hel⟩ := hpr.rows
            obtain ⟨pb, poff, pup, puc, -, rfl, -, -, d0, d1, d2, hu, -⟩ := hel j hlj
            have hb1 := (Below.refl wr.heap.size wr).alloc (Nat.le_refl _) (Obj.cells #[Value.int IntKind.u64 l[j].id, Value.int IntKind.u64 l[j].dist, Value.slice pup l[j].vec.length puc] 35)
            have GJ := addsZ_good (most := most) hm1 M4.out.1.good (l.take j) fun h hh => Nat.le_trans (hv8.out h (List.mem_of_mem_take hh)) (by omega)
            have SN := Lib.hid (addsZ_snoc most L (l.take j) l[j])
            rw [← take_snoc l j hlj] at SN
            have hsz1 : (wr.alloc (Obj.cells #[Value.int IntKind.u64 l[j].id, Value.int IntKind.u64 l[j].dist, Value.slice pup l[j].vec.length puc] 35)).heap.size = wr.heap.size + 1 := by simp
            have RA := Lib.hid (refAdd _ w2.heap.size most _ l[j] _ _ hm1 (by have := GJ.len; omega) (R.out.1.below hb1) (fun q hq => by
              rw [hsz1]
              rcases hq with hq | hq
              · have := M4.out.1.rh q hq; omega
              · omega) GJ (hu.below hb1) (Nat.le_trans (hv8.out _ (List.getElem_mem hlj)) (by omega)))
            have hacc : (addsZ most L (l.take j)).1 ≤ 12 := by
              have := addsZ_le most L (l.take j)
              rw [List.length_take] at this
              omega
            clear hel hu hpr GJ
            generalize addsZ most L (l.take j) = pr at *
            obtain ⟨pc, pL⟩ := pr
            simp only at hacc
            cases hz : (addZ most pL l[j]).1
            · have RA2 := Lib.hid (RA.out.mono (R' := fun e w' => e = .returned (.bool false) ∧ RefAdd (wr.alloc (Obj.cells #[Value.int IntKind.u64 l[j].id, Value.int IntKind.u64 l[j].dist, Value.slice pup l[j].vec.length puc] 35)) (fun k => FX k ∨ (w4.heap.size ≤ k ∧ k < wr.heap.size)) w2.heap.size most (addZ most pL l[j]) e w') fun e w' hh => ⟨hh.1.trans (by rw [hz]), hh⟩)
              have HZ := Lib.hid hz
              clear RA hz
              go_wp2_with fail
              refine RA2.out.mono ?_
              rintro e w6 ⟨rfl, hR6⟩
              have X := Lib.hid (play_next R.out.2 hb1 hR6)
              clear hR6 RA2 hb1
              go_wp2_with fail
              go_roundg (l.length - (j + 1))
              case measure => omega
              case rel => exact ⟨j + 1, rfl, by omega, by go_num, by rw [SN.out, HZ.out]; rfl, by rw [SN.out]; exact X.out.1, X.out.2⟩
            · have RA2 := Lib.hid (RA.out.mono (R' := fun e w' => e = .returned (.bool true) ∧ RefAdd (wr.alloc (Obj.cells #[Value.int IntKind.u64 l[j].id, Value.int IntKind.u64 l[j].dist, Value.slice pup l[j].vec.length puc] 35)) (fun k => FX k ∨ (w4.heap.size ≤ k ∧ k < wr.heap.size)) w2.heap.size most (addZ most pL l[j]) e w') fun e w' hh => ⟨hh.1.trans (by rw [hz]), hh⟩)
              have HZ := Lib.hid hz
              clear RA hz
              go_wp2_with fail
              refine RA2.out.mono ?_
              rintro e w6 ⟨rfl, hR6⟩
              have X := Lib.hid (play_next R.out.2 hb1 hR6)
              clear hR6 RA2 hb1
              go_wp2_with fail
              go_roundg (l.length - (j + 1))
              case measure => omega
              case rel => exact ⟨j + 1, rfl, by omega, by go_num, by rw [SN.out, HZ.out]; rfl, by rw [SN.out]; exact X.out.1, X.out.2⟩
          · obtain rfl : j = l.length := by omega
            rw [List.take_length] at *
            have hcx := M.out.1.cx
            have hcxl := M.out.1.rh _ hcx
            have hsw := hm.out.2.size
            have hmr := hm.out.1.agree (Agree.of_mod R.out.2 (fun q hq => hq.2) fun q hq e => by have := hq.1; omega)
            have LA5 := M4.out.1.la.agree (Agree.of_mod R.out.2 (fun q hq => (M4.out.1.lh q hq).1) fun q hq e => (M4.out.1.lh q hq).2 (by rw [e]; exact hcx)) hsz
            have hx8 : ∀ h ∈ l, h.vec.length ≤ 1000000 := fun h hh => Nat.le_trans (hv8.out h hh) (by omega)
            have AD := Lib.hid (adds w1.heap.size cl FL (fun q => wp.heap.size ≤ q ∧ q < w4.heap.size) most L l _ wr hm1 (by omega) LA5 (fun q hq => by have := (M4.out.1.lh q hq).1; omega) (by have := M4.out.1.b0; omega) M4.out.1.good hmr (fun q hq => ⟨by have := hq.2; omega, fun hl => by have := (M.out.1.lh q hl).1; omega⟩) hx8 (by omega))
            have BAD := Lib.hid (fun (w6 : World) h1 h2 => M4.out.1.added (w6 := w6) hm1 hx8 (by have := M.out.2.size; omega) R.out.1 R.out.2 h1 h2)
            have hacc : (addsZ most L l).1 ≤ 12 := Nat.le_trans (addsZ_le most L l) (by omega)
            have PM := Lib.hid (And.intro hpr hmr)
            have GD := Lib.hid (addsZ_good (most := most) hm1 M4.out.1.good l hx8)
            clear LA5 hmr hpr hx8 hcx
            generalize addsZ most L l = pr at *
            obtain ⟨cnt, L'⟩ := pr
            simp only at hacc
            go_wp2_with fail
            refine AD.out.mono ?_
            rintro e w6 ⟨rfl, hL6, hm6⟩
            have B6 := Lib.hid (BAD.out w6 hL6 hm6)
            have PM6 := Lib.hid (And.intro (PM.out.1.agree (Agree.of_mod hm6 (fun q hq => by have := hq.2; omega) fun q hq hl => by have := (M.out.1.lh q hl).1; have := hq.1; omega)) (PM.out.2.agree (Agree.of_mod hm6 (fun q hq => by have := hq.2; omega) fun q hq hl => by have := (M.out.1.lh q hl).1; have := hq.1; omega)))
            have FS6 := Lib.hid (FS0.out.keep (w' := w6) fun q h1 h2 => (hm6.block q (by omega) fun hl => by have := (M.out.1.lh q hl).1; omega).trans (R.out.2.block q h2 (by omega)))
            have hs6 := hm6.size
            have BW6 := Lib.hid ((M4.out.2.trans (R.out.2.below (B := w.heap.size) M4.out.2.size fun q hq => by omega)).trans (hm6.below (B := w.heap.size) (by have := M4.out.2.size; omega) fun q hq => M.out.1.lo q (.inl hq)))
            have SM := Lib.hid (sameHits_self _ _ l _ _ w6 PM6.out.2 PM6.out.1)
            clear hL6 hm6 AD BAD
            go_wp2_with fail
            refine SM.out.mono ?_
            rintro e w7 ⟨rfl, hd7⟩
            have b67 := hd7.below
            have B7 := Lib.hid (B6.out.below b67)
            have FSt := Lib.hid (FS6.out.keep (w' := w7) fun q h1 h2 => b67.block q (by omega))
            have BW7 := Lib.hid (BW6.out.trans (b67.mono BW6.out.size))
            have hs7 := b67.size
            clear hd7 b67 SM
            go_wp2_with fail
            go_loopg [96] l.length (fun q' i wr => ∃ k, q' = l.length - k ∧ k ≤ l.length ∧ i = .int .i64 k ∧ FlipS wr wp.heap.size w4.heap.size l.length (.slice qm l.length cm) rsm lens ∧ Mod (fun k => wp.heap.size ≤ k ∧ k < w4.heap.size) w7 wr)
            case atStart => exact ⟨0, rfl, by omega, rfl, FSt.out, Mod.refl _ _⟩
            case round =>
              obtain ⟨fk, rfl, hfk, rfl, hFS, hFm⟩ := hrel
              have F1 := Lib.hid (And.intro hFS hFm)
              clear hFS hFm
              by_cases hflt : fk < l.length
              · obtain ⟨fg, fcg, fq, fcap, hfv, fc2, hbl, -⟩ := F1.out.1.at hflt
                obtain ⟨rfl, -, rfl⟩ := Value.slice.inj hfv
                have f0 : (0 : Int) ≤ (fk : Int) := by omega
                have f1 : (fk : Int) < (l.length : Int) := by omega
                clear hfv
                obtain ⟨wm, rfl⟩ : ∃ wm : World, wm = wr := ⟨_, rfl⟩
                go_wp2_with fail
                go_loopg [105] (lens fk) (fun q' i wr => ∃ c, q' = lens fk - c ∧ c ≤ lens fk ∧ i = .int .i64 c ∧ FlipS wr wp.heap.size w4.heap.size l.length (.slice (some ⟨fg, 0, none⟩) l.length cm) rsm lens ∧ Mod (fun k => wp.heap.size ≤ k ∧ k < w4.heap.size) w7 wr)
                case atStart => exact ⟨0, rfl, by omega, rfl, F1.out.1, F1.out.2⟩
                case round =>
                  obtain ⟨fc, rfl, hfc, rfl, hFS2, hFm2⟩ := hrel
                  have F2 := Lib.hid (And.intro hFS2 hFm2)
                  clear hFS2 hFm2
                  by_cases hfct : fc < lens fk
                  · obtain ⟨g', cg', fq2, fcap2, hv2, gc2, -, hcells⟩ := F2.out.1.at hflt
                    obtain ⟨hgg, -, -⟩ := Value.slice.inj hv2
                    obtain rfl : fg = g' := by simpa using hgg
                    obtain ⟨fb, fx, rfl, hlo, hhi, d0, df, hfl⟩ := hcells fc hfct
                    have FL := Lib.hid (And.intro hfl (And.intro hlo hhi))
                    have h0 : (0 : Int) ≤ (fc : Int) := by omega
                    have h1 : (fc : Int) < (lens fk : Int) := by omega
                    clear hv2 hgg hcells hfl hlo hhi
                    go_wp2_with fail
                    go_roundg (lens fk - (fc + 1))
                    case measure => omega
                    case rel => exact ⟨fc + 1, rfl, by omega, by go_num, FL.out.1 _, F2.out.2.setCell (.inl FL.out.2) _⟩
                  · obtain rfl : lens fk = fc := by omega
                    go_wp2_with fail
                    go_roundg (l.length - (fk + 1))
                    case measure => omega
                    case rel => exact ⟨fk + 1, rfl, by omega, by go_num, F2.out.1, F2.out.2⟩
              · obtain rfl : l.length = fk := by omega
                have hs8 := F1.out.2.size
                have B8 := Lib.hid (B7.out.mod F1.out.2 (fun q hq hr => by
                  rcases hq with (hq | hq) | (hq | hq)
                  · have := (M.out.1.lh q hq).1; omega
                  · omega
                  · have := M.out.1.rh q hq; omega
                  · omega))
                have BW8 := Lib.hid (BW7.out.trans (F1.out.2.below (B := w.heap.size) (by have := BW7.out.size; omega) fun q hq => by have := M.out.2.size; omega))
                have RX := Lib.hid (refAll _ w2.heap.size most most L' wr B8.out.rl GD.out (by have := GD.out.len; omega))
                clear F1 FSt B7 BW7 FS6 PM6 B6 BW6
                go_wp2_with fail
                refine RX.out.mono ?_
                rintro e w9 ⟨vw, rfl, hxw, hb9⟩
                obtain ⟨qw, cw, rfl, hcw, -, -, -⟩ := id hxw
                have hw9 := Lib.hid (And.intro hxw hb9)
                obtain ⟨va, rsa, Ga, hOa, -, -, -⟩ := (B8.out.below hb9).la
                have HA := Lib.hid (hits _ cl _ va rsa Ga L' (by have := GD.out.len; omega) GD.out.vecs w9 hOa)
                have hs9 := hb9.size
                clear hxw hb9 hOa RX
                go_wp2_with fail
                refine HA.out.mono ?_
                rintro e w10 ⟨vg, rsg, rfl, hog, hhg, hbg⟩
                have N10 := Lib.hid (HitsF.of_own (F := fun k => w9.heap.size ≤ k ∧ k < w10.heap.size) hog (fun b hb => hog.lt b hb) hhg.rows)
                have N10B := Lib.hid hbg
                obtain ⟨lng, FSG⟩ : ∃ lng, Hid (FlipS w10 w9.heap.size w10.heap.size L'.length vg rsg lng) := ⟨_, Lib.hid (FlipS.start hog hhg)⟩
                obtain ⟨qg, cg, rfl, -, -, -, -⟩ := id N10.out
                have hs10 := hbg.size
                clear hog hhg hbg HA
                obtain ⟨vb, rsb, Gb, hOb, -, -, -⟩ := ((B8.out.below hw9.out.2).below N10B.out).la
                have hLe := GD.out.len
                by_cases hem : L'.length = 0
                · have hnil : L' = [] := List.eq_nil_of_length_eq_zero hem
                  have WN := Lib.hid (worst_none _ cl _ vb rsb Gb w10 (by rw [hnil] at hOb; exact hOb))
                  have L3 : ¬ (0 : Int) < (L'.length : Int) := by omega
                  have L4 : decide (0 < L'.length) = false := decide_eq_false (by omega)
                  clear hOb hem hnil
                  go_wp2_with fail
                  refine WN.out.mono ?_
                  rintro e w11 ⟨rfl, hb11⟩
                  have B11 := Lib.hid hb11
                  clear hb11 WN
                  go_wp2_with fail
                  obtain ⟨W1, hW1⟩ : ∃ W1, W1 = (w11.alloc (.cells #[.int .u64 0, .int .u64 0, .slice none 0 0] 35)).drew := ⟨_, rfl⟩
                  have b0 : Below w11.heap.size w11 W1 := by rw [hW1]; exact ((Below.refl _ _).alloc (Nat.le_refl _) _).drew
                  have N1 := Lib.hid ((N10.out.below B11.out).below b0)
                  have X1 := Lib.hid (((hw9.out.1.below N10B.out).below B11.out).below b0)
                  obtain ⟨vq, rsq, Gq, hOq, -, -, -⟩ := ((((B8.out.below hw9.out.2).below N10B.out).below B11.out).below b0).la
                  have O1 := Lib.hid hOq
                  have hbd := Below.refl W1.heap.size W1
                  have HW := Lib.hid hW1
                  skip
                  clear hW1 hOq
                  refine region_go (fun _ => True) (by kernel_rfl) ?hS0 (fun hH => ?_)
                  case hS0 =>
                    trivial
                  rw [← HW.out]
                  refine tkY (v := ?_) 0 hH rfl (fun _ _ _ h => h) ?hc ?hw ?hy ?_
                  case hc => decide +kernel
                  case hw => rfl
                  case hy => (intro w hS; (try dsimp only at hS); go_simp; try with_reducible rfl)
                  (try simp only [Act.put]); (repeat (first | simp only [List.setIfInBounds_toArray] | simp only [List.set_cons_zero] | simp only [List.set_cons_succ]))
                  refine tkY (v := ?_) 1 hH rfl (fun _ _ _ h => h) ?hc ?hw ?hy ?_
                  case hc => decide +kernel
                  case hw => rfl
                  case hy => (intro w hS; (try dsimp only at hS); go_simp; try with_reducible rfl)
                  (try simp only [Act.put]); (repeat (first | simp only [List.setIfInBounds_toArray] | simp only [List.set_cons_zero] | simp only [List.set_cons_succ]))
                  refine spk 2 rfl ?hr ?hw (fun K' hK => ?_)
                  case hr => decide +kernel
                  case hw => rfl
                  go_simp
                  refine (sameHits_self _ _ L' _ _ _ (N1.out.below hbd) (X1.out.below hbd)).mono ?_
                  rintro e ws ⟨rfl, hds⟩
                  replace hbd := hbd.trans (hds.below.mono hbd.size)
                  clear hds
                  try dsimp only
                  refine hK.out _ _ ?hS (fun hH' => ?_)
                  case hS =>
                    exact trivial
                  clear hK K' hH; have hH := hH'; clear hH'; (try simp only [Act.put]); (repeat (first | simp only [List.setIfInBounds_toArray] | simp only [List.set_cons_zero] | simp only [List.set_cons_succ]))
                  refine tkY (v := ?_) 3 hH rfl (fun _ _ _ h => h) ?hc ?hw ?hy ?_
                  case hc => decide +kernel
                  case hw => rfl
                  case hy => (intro w hS; (try dsimp only at hS); go_simp; try with_reducible rfl)
                  (try simp only [Act.put]); (repeat (first | simp only [List.setIfInBounds_toArray] | simp only [List.set_cons_zero] | simp only [List.set_cons_succ]))
                  refine tkY (v := ?_) 4 hH rfl (fun _ _ _ h => h) ?hc ?hw ?hy ?_
                  case hc => decide +kernel
                  case hw => rfl
                  case hy => (intro w hS; (try dsimp only at hS); go_simp; try with_reducible rfl)
                  (try simp only [Act.put]); (repeat (first | simp only [List.setIfInBounds_toArray] | simp only [List.set_cons_zero] | simp only [List.set_cons_succ]))
                  refine tkY (v := ?_) 5 hH rfl (fun _ _ _ h => h) ?hc ?hw ?hy ?_
                  case hc => decide +kernel
                  case hw => rfl
                  case hy => (intro w hS; (try dsimp only at hS); go_simp; try with_reducible rfl)
                  (try simp only [Act.put]); (repeat (first | simp only [List.setIfInBounds_toArray] | simp only [List.set_cons_zero] | simp only [List.set_cons_succ]))
                  refine tkY (v := ?_) 7 hH rfl (fun _ _ _ h => h) ?hc ?hw ?hy ?_
                  case hc => decide +kernel
                  case hw => rfl
                  case hy => (intro w hS; (try dsimp only at hS); go_simp; try with_reducible rfl)
                  (try simp only [Act.put]); (repeat (first | simp only [List.setIfInBounds_toArray] | simp only [List.set_cons_zero] | simp only [List.set_cons_succ]))
                  refine tkY (v := ?_) 8 hH rfl (fun _ _ _ h => h) ?hc ?hw ?hy ?_
                  case hc => decide +kernel
                  case hw => rfl
                  case hy => (intro w hS; (try dsimp only at hS); go_simp; try with_reducible rfl)
                  (try simp only [Act.put]); (repeat (first | simp only [List.setIfInBounds_toArray] | simp only [List.set_cons_zero] | simp only [List.set_cons_succ]))
                  refine spk 6 rfl ?hr ?hw (fun K' hK => ?_)
                  case hr => decide +kernel
                  case hw => rfl
                  go_simp
                  refine (len _ _ _ _ _ _ L' _ (O1.out.below hbd)).mono ?_
                  rintro e ws ⟨rfl, hws⟩
                  subst hws
                  try dsimp only
                  refine hK.out _ _ ?hS (fun hH' => ?_)
                  case hS =>
                    exact trivial
                  clear hK K' hH; have hH := hH'; clear hH'; (try simp only [Act.put]); (repeat (first | simp only [List.setIfInBounds_toArray] | simp only [List.set_cons_zero] | simp only [List.set_cons_succ]))
                  refine tkY (v := ?_) 9 hH rfl (fun _ _ _ h => h) ?hc ?hw ?hy ?_
                  case hc => decide +kernel
                  case hw => rfl
                  case hy => (intro w hS; (try dsimp only at hS); go_simp; try with_reducible rfl)
                  (try simp only [Act.put]); (repeat (first | simp only [List.setIfInBounds_toArray] | simp only [List.set_cons_zero] | simp only [List.set_cons_succ]))
                  refine tkY (v := ?_) 10 hH rfl (fun _ _ _ h => h) ?hc ?hw ?hy ?_
                  case hc => decide +kernel
                  case hw => rfl
                  case hy => (intro w hS; (try dsimp only at hS); go_simp; try with_reducible rfl)
                  (try simp only [Act.put]); (repeat (first | simp only [List.setIfInBounds_toArray] | simp only [List.set_cons_zero] | simp only [List.set_cons_succ]))
                  refine tkY (v := ?_) 11 hH rfl (fun _ _ _ h => h) ?hc ?hw ?hy ?_
                  case hc => decide +kernel
                  case hw => rfl
                  case hy => (intro w hS; (try dsimp only at hS); go_simp; try with_reducible rfl)
                  (try simp only [Act.put]); (repeat (first | simp only [List.setIfInBounds_toArray] | simp only [List.set_cons_zero] | simp only [List.set_cons_succ]))
                  refine tkY (v := ?_) 12 hH rfl (fun _ _ _ h => h) ?hc ?hw ?hy ?_
                  case hc => decide +kernel
                  case hw => rfl
                  case hy => (intro w hS; (try dsimp only at hS); go_simp; try with_reducible rfl)
                  (try simp only [Act.put]); (repeat (first | simp only [List.setIfInBounds_toArray] | simp only [List.set_cons_zero] | simp only [List.set_cons_succ]))
                  refine tkY (v := ?_) 13 hH rfl (fun _ _ _ h => h) ?hc ?hw ?hy ?_
                  case hc => decide +kernel
                  case hw => rfl
                  case hy => (intro w hS; (try dsimp only at hS); go_simp; try with_reducible rfl)
                  (try simp only [Act.put]); (repeat (first | simp only [List.setIfInBounds_toArray] | simp only [List.set_cons_zero] | simp only [List.set_cons_succ]))
                  refine tkY (v := ?_) 14 hH rfl (fun _ _ _ h => h) ?hc ?hw ?hy ?_
                  case hc => decide +kernel
                  case hw => rfl
                  case hy => (intro w hS; (try dsimp only at hS); go_simp; try with_reducible rfl)
                  (try simp only [Act.put]); (repeat (first | simp only [List.setIfInBounds_toArray] | simp only [List.set_cons_zero] | simp only [List.set_cons_succ]))
                  refine tkY (v := ?_) 15 hH rfl (fun _ _ _ h => h) ?hc ?hw ?hy ?_
                  case hc => decide +kernel
                  case hw => rfl
                  case hy => (intro w hS; (try dsimp only at hS); go_simp; try with_reducible rfl)
                  (try simp only [Act.put]); (repeat (first | simp only [List.setIfInBounds_toArray] | simp only [List.set_cons_zero] | simp only [List.set_cons_succ]))
                  refine tkY (v := ?_) 16 hH rfl (fun _ _ _ h => h) ?hc ?hw ?hy ?_
                  case hc => decide +kernel
                  case hw => rfl
                  case hy => (intro w hS; (try dsimp only at hS); go_simp; try with_reducible rfl)
                  (try simp only [Act.put]); (repeat (first | simp only [List.setIfInBounds_toArray] | simp only [List.set_cons_zero] | simp only [List.set_cons_succ]))
                  refine tkY (v := ?_) 17 hH rfl (fun _ _ _ h => h) ?hc ?hw ?hy ?_
                  case hc => decide +kernel
                  case hw => rfl
                  case hy => (intro w hS; (try dsimp only at hS); go_simp; try with_reducible rfl)
                  (try simp only [Act.put]); (repeat (first | simp only [List.setIfInBounds_toArray] | simp only [List.set_cons_zero] | simp only [List.set_cons_succ]))
                  refine tkY (v := ?_) 18 hH rfl (fun _ _ _ h => h) ?hc ?hw ?hy ?_
                  case hc => decide +kernel
                  case hw => rfl
                  case hy => (intro w hS; (try dsimp only at hS); go_simp; try with_reducible rfl)
                  (try simp only [Act.put]); (repeat (first | simp only [List.setIfInBounds_toArray] | simp only [List.set_cons_zero] | simp only [List.set_cons_succ]))
                  refine tkY (v := ?_) 19 hH rfl (fun _ _ _ h => h) ?hc ?hw ?hy ?_
                  case hc => decide +kernel
                  case hw => rfl
                  case hy => (intro w hS; (try dsimp only at hS); go_simp; try with_reducible rfl)
                  (try simp only [Act.put]); (repeat (first | simp only [List.setIfInBounds_toArray] | simp only [List.set_cons_zero] | simp only [List.set_cons_succ]))
                  refine tkY (v := ?_) 20 hH rfl (fun _ _ _ h => h) ?hc ?hw ?hy ?_
                  case hc => decide +kernel
                  case hw => rfl
                  case hy => (intro w hS; (try dsimp only at hS); go_simp; try with_reducible rfl)
                  (try simp only [Act.put]); (repeat (first | simp only [List.setIfInBounds_toArray] | simp only [List.set_cons_zero] | simp only [List.set_cons_succ]))
                  refine tkN 21 hH rfl (fun _ _ _ h => h) ?hc ?hw ?_
                  case hc => decide +kernel
                  case hw => rfl
                  (try simp only [Act.put]); (repeat (first | simp only [List.setIfInBounds_toArray] | simp only [List.set_cons_zero] | simp only [List.set_cons_succ]))
                  refine tkN 23 hH rfl (fun _ _ _ h => h) ?hc ?hw ?_
                  case hc => decide +kernel
                  case hw => rfl
                  (try simp only [Act.put]); (repeat (first | simp only [List.setIfInBounds_toArray] | simp only [List.set_cons_zero] | simp only [List.set_cons_succ]))
                  refine tkN 24 hH rfl (fun _ _ _ h => h) ?hc ?hw ?_
                  case hc => decide +kernel
                  case hw => rfl
                  (try simp only [Act.put]); (repeat (first | simp only [List.setIfInBounds_toArray] | simp only [List.set_cons_zero] | simp only [List.set_cons_succ]))
                  refine tkN 25 hH rfl (fun _ _ _ h => h) ?hc ?hw ?_
                  case hc => decide +kernel
                  case hw => rfl
                  (try simp only [Act.put]); (repeat (first | simp only [List.setIfInBounds_toArray] | simp only [List.set_cons_zero] | simp only [List.set_cons_succ]))
                  refine tkN 26 hH rfl (fun _ _ _ h => h) ?hc ?hw ?_
                  case hc => decide +kernel
                  case hw => rfl
                  (try simp only [Act.put]); (repeat (first | simp only [List.setIfInBounds_toArray] | simp only [List.set_cons_zero] | simp only [List.set_cons_succ]))
                  refine tkN 27 hH rfl (fun _ _ _ h => h) ?hc ?hw ?_
                  case hc => decide +kernel
                  case hw => rfl
                  (try simp only [Act.put]); (repeat (first | simp only [List.setIfInBounds_toArray] | simp only [List.set_cons_zero] | simp only [List.set_cons_succ]))
                  refine tkN 22 hH rfl (fun _ _ _ h => h) ?hc ?hw ?_
                  case hc => decide +kernel
                  case hw => rfl
                  (try simp only [Act.put]); (repeat (first | simp only [List.setIfInBounds_toArray] | simp only [List.set_cons_zero] | simp only [List.set_cons_succ]))
                  refine tkN 28 hH rfl (fun _ _ _ h => h) ?hc ?hw ?_
                  case hc => decide +kernel
                  case hw => rfl
                  (try simp only [Act.put]); (repeat (first | simp only [List.setIfInBounds_toArray] | simp only [List.set_cons_zero] | simp only [List.set_cons_succ]))
                  refine tkN 29 hH rfl (fun _ _ _ h => h) ?hc ?hw ?_
                  case hc => decide +kernel
                  case hw => rfl
                  (try simp only [Act.put]); (repeat (first | simp only [List.setIfInBounds_toArray] | simp only [List.set_cons_zero] | simp only [List.set_cons_succ]))
                  refine tkY (v := ?_) 30 hH rfl (fun _ _ _ h => h) ?hc ?hw ?hy ?_
                  case hc => decide +kernel
                  case hw => rfl
                  case hy => (intro w hS; (try dsimp only at hS); go_simp; try with_reducible rfl)
                  (try simp only [Act.put]); (repeat (first | simp only [List.setIfInBounds_toArray] | simp only [List.set_cons_zero] | simp only [List.set_cons_succ]))
                  refine tkY (v := ?_) 31 hH rfl (fun _ _ _ h => h) ?hc ?hw ?hy ?_
                  case hc => decide +kernel
                  case hw => rfl
                  case hy => (intro w hS; (try dsimp only at hS); go_simp; try with_reducible rfl)
                  (try simp only [Act.put]); (repeat (first | simp only [List.setIfInBounds_toArray] | simp only [List.set_cons_zero] | simp only [List.set_cons_succ]))
                  refine tkY (v := ?_) 32 hH rfl (fun _ _ _ h => h) ?hc ?hw ?hy ?_
                  case hc => decide +kernel
                  case hw => rfl
                  case hy => (intro w hS; (try dsimp only at hS); go_simp; try with_reducible rfl)
                  (try simp only [Act.put]); (repeat (first | simp only [List.setIfInBounds_toArray] | simp only [List.set_cons_zero] | simp only [List.set_cons_succ]))
                  refine tkY (v := ?_) 33 hH rfl (fun _ _ _ h => h) ?hc ?hw ?hy ?_
                  case hc => decide +kernel
                  case hw => rfl
                  case hy => (intro w hS; (try dsimp only at hS); go_simp; try with_reducible rfl)
                  (try simp only [Act.put]); (repeat (first | simp only [List.setIfInBounds_toArray] | simp only [List.set_cons_zero] | simp only [List.set_cons_succ]))
                  refine tkY (v := ?_) 35 hH rfl (fun _ _ _ h => h) ?hc ?hw ?hy ?_
                  case hc => decide +kernel
                  case hw => rfl
                  case hy => (intro w hS; (try dsimp only at hS); go_simp; try with_reducible rfl)
                  (try simp only [Act.put]); (repeat (first | simp only [List.setIfInBounds_toArray] | simp only [List.set_cons_zero] | simp only [List.set_cons_succ]))
                  refine tkY (v := ?_) 36 hH rfl (fun _ _ _ h => h) ?hc ?hw ?hy ?_
                  case hc => decide +kernel
                  case hw => rfl
                  case hy => (intro w hS; (try dsimp only at hS); go_simp; try with_reducible rfl)
                  (try simp only [Act.put]); (repeat (first | simp only [List.setIfInBounds_toArray] | simp only [List.set_cons_zero] | simp only [List.set_cons_succ]))
                  refine spk 34 rfl ?hr ?hw (fun K' hK => ?_)
                  case hr => decide +kernel
                  case hw => rfl
                  go_simp
                  refine (full _ _ _ _ _ _ L' _ (O1.out.below hbd)).mono ?_
                  rintro e ws ⟨rfl, hds⟩
                  replace hbd := hbd.trans (hds.below.mono hbd.size)
                  clear hds
                  try dsimp only
                  refine hK.out _ _ ?hS (fun hH' => ?_)
                  case hS =>
                    exact trivial
                  clear hK K' hH; have hH := hH'; clear hH'; (try simp only [Act.put]); (repeat (first | simp only [List.setIfInBounds_toArray] | simp only [List.set_cons_zero] | simp only [List.set_cons_succ]))
                  refine tkY (v := ?_) 37 hH rfl (fun _ _ _ h => h) ?hc ?hw ?hy ?_
                  case hc => decide +kernel
                  case hw => rfl
                  case hy => (intro w hS; (try dsimp only at hS); go_simp; try with_reducible rfl)
                  (try simp only [Act.put]); (repeat (first | simp only [List.setIfInBounds_toArray] | simp only [List.set_cons_zero] | simp only [List.set_cons_succ]))
                  refine tkY (v := ?_) 38 hH rfl (fun _ _ _ h => h) ?hc ?hw ?hy ?_
                  case hc => decide +kernel
                  case hw => rfl
                  case hy => (intro w hS; (try dsimp only at hS); go_simp; try with_reducible rfl)
                  (try simp only [Act.put]); (repeat (first | simp only [List.setIfInBounds_toArray] | simp only [List.set_cons_zero] | simp only [List.set_cons_succ]))
                  refine tkY (v := ?_) 39 hH rfl (fun _ _ _ h => h) ?hc ?hw ?hy ?_
                  case hc => decide +kernel
                  case hw => rfl
                  case hy => (intro w hS; (try dsimp only at hS); go_simp; try with_reducible rfl)
                  (try simp only [Act.put]); (repeat (first | simp only [List.setIfInBounds_toArray] | simp only [List.set_cons_zero] | simp only [List.set_cons_succ]))
                  refine tkY (v := ?_) 40 hH rfl (fun _ _ _ h => h) ?hc ?hw ?hy ?_
                  case hc => decide +kernel
                  case hw => rfl
                  case hy => (intro w hS; (try dsimp only at hS); go_simp; try with_reducible rfl)
                  (try simp only [Act.put]); (repeat (first | simp only [List.setIfInBounds_toArray] | simp only [List.set_cons_zero] | simp only [List.set_cons_succ]))
                  refine tkY (v := ?_) 41 hH rfl (fun _ _ _ h => h) ?hc ?hw ?hy ?_
                  case hc => decide +kernel
                  case hw => rfl
                  case hy => (intro w hS; (try dsimp only at hS); go_simp; try with_reducible rfl)
                  (try simp only [Act.put]); (repeat (first | simp only [List.setIfInBounds_toArray] | simp only [List.set_cons_zero] | simp only [List.set_cons_succ]))
                  refine tkY (v := ?_) 42 hH rfl (fun _ _ _ h => h) ?hc ?hw ?hy ?_
                  case hc => decide +kernel
                  case hw => rfl
                  case hy => (intro w hS; (try dsimp only at hS); go_simp; try with_reducible rfl)
                  (try simp only [Act.put]); (repeat (first | simp only [List.setIfInBounds_toArray] | simp only [List.set_cons_zero] | simp only [List.set_cons_succ]))
                  refine tkY (v := ?_) 43 hH rfl (fun _ _ _ h => h) ?hc ?hw ?hy ?_
                  case hc => decide +kernel
                  case hw => rfl
                  case hy => (intro w hS; (try dsimp only at hS); go_simp; try with_reducible rfl)
                  (try simp only [Act.put]); (repeat (first | simp only [List.setIfInBounds_toArray] | simp only [List.set_cons_zero] | simp only [List.set_cons_succ]))
                  refine tkY (v := ?_) 44 hH rfl (fun _ _ _ h => h) ?hc ?hw ?hy ?_
                  case hc => decide +kernel
                  case hw => rfl
                  case hy => (intro w hS; (try dsimp only at hS); go_simp; try with_reducible rfl)
                  (try simp only [Act.put]); (repeat (first | simp only [List.setIfInBounds_toArray] | simp only [List.set_cons_zero] | simp only [List.set_cons_succ]))
                  refine wpAnyH_done (by decide +kernel) ?_ _
                  have BD := Lib.hid (b0.trans (hbd.mono b0.size))
                  have Bs := Lib.hid ((((B8.out.below hw9.out.2).below N10B.out).below B11.out).below BD.out)
                  have BWs := Lib.hid (BW8.out.trans ((hw9.out.2.trans ((N10B.out.trans ((B11.out.trans (BD.out.mono B11.out.size)).mono N10B.out.size)).mono hw9.out.2.size)).mono BW8.out.size))
                  have hs11 := B11.out.size
                  have FSt := Lib.hid (FSG.out.keep (w' := ws) fun q h1 h2 => (BD.out.block q (by omega)).trans (B11.out.block q h2))
                  clear hH hbd HW b0 N1 X1 O1
                  go_wp2_with fail
                  go_loopg [176] L'.length (fun q' i wr => ∃ k, q' = L'.length - k ∧ k ≤ L'.length ∧ i = .int .i64 k ∧ FlipS wr w9.heap.size w10.heap.size L'.length (.slice qg L'.length cg) rsg lng ∧ Mod (fun k => w9.heap.size ≤ k ∧ k < w10.heap.size) ws wr)
                  case atStart => exact ⟨0, rfl, by omega, rfl, FSt.out, Mod.refl _ _⟩
                  case round =>
                    obtain ⟨fk, rfl, hfk, rfl, hFS, hFm⟩ := hrel
                    have F1 := Lib.hid (And.intro hFS hFm)
                    clear hFS hFm
                    by_cases hflt : fk < L'.length
                    · exfalso; omega
                    · obtain rfl : L'.length = fk := by omega
                      have hsz9 := F1.out.2.size
                      have Bz := Lib.hid (Bs.out.mod F1.out.2 (fun q hq hr => by
                        rcases hq with hq | hq
                        · have := (B8.out.lh q hq).1; omega
                        · have := B8.out.rh q hq; omega))
                      have BWz := Lib.hid (BWs.out.trans (F1.out.2.below (B := w.heap.size) BWs.out.size fun q hq => by have := BW8.out.size; omega))
                      go_wp2_with fail
                      go_roundg (ls0.length - (k + 1))
                      case measure => omega
                      case rel => exact ⟨k + 1, L', _, _, rfl, by omega, by go_num, Bz.out, BWz.out⟩
                · obtain ⟨n, hLn⟩ : ∃ n, L'.length = n + 1 := ⟨L'.length - 1, by omega⟩
                  have hnl : n < L'.length := by omega
                  have WS := Lib.hid (worst_some _ cl _ vb rsb Gb L' n hnl hLn (by omega) (GD.out.vecs _ (List.getElem_mem hnl)) w10 hOb)
                  have hw1 : IntKind.i64.wrap ((L'.length : Int) - 1) = n := by simp only [IntKind.wrap, IntKind.signed, IntKind.bits]; simp; omega
                  have HN := Lib.hid hLn
                  have L0 : (0 : Int) ≤ (n : Int) := by omega
                  have L1 : (n : Int) ≤ (L'.length : Int) := by omega
                  have L2 : ¬ ((cw : Int) = (n : Int)) := by omega
                  have L5 : ¬ cw = n := by omega
                  have L3 : (0 : Int) < (L'.length : Int) := by omega
                  have L4 : decide (0 < L'.length) = true := decide_eq_true (by omega)
                  clear hOb hem hLn
                  go_wp2_with fail
                  refine WS.out.mono ?_
                  rintro e w11 ⟨uw, rfl, huw, hb11⟩
                  obtain ⟨qu, nu, cu, rfl⟩ := own_form huw
                  have B11 := Lib.hid hb11
                  have UW := Lib.hid huw
                  clear hb11 huw WS
                  go_wp2_with fail
                  obtain ⟨_, _, _, hwel⟩ := hw9.out.1.rows
                  obtain ⟨wb, woff, -, -, -, rfl, -⟩ := hwel n hnl
                  clear hwel
                  obtain ⟨W1, hW1⟩ : ∃ W1, W1 = (w11.alloc (.cells #[.int .u64 L'[n].id, .int .u64 L'[n].dist, .slice qu nu cu] 35)).drew := ⟨_, rfl⟩
                  have b0 : Below w11.heap.size w11 W1 := by rw [hW1]; exact ((Below.refl _ _).alloc (Nat.le_refl _) _).drew
                  have N1 := Lib.hid ((N10.out.below B11.out).below b0)
                  have X1 := Lib.hid (((hw9.out.1.below N10B.out).below B11.out).below b0)
                  obtain ⟨vq, rsq, Gq, hOq, -, -, -⟩ := ((((B8.out.below hw9.out.2).below N10B.out).below B11.out).below b0).la
                  have O1 := Lib.hid hOq
                  have hbd := Below.refl W1.heap.size W1
                  have HW := Lib.hid hW1
                  have z0 : W1.cell? ⟨w11.heap.size, 0, none⟩ = some (.int .u64 L'[n].id) := by rw [hW1]; go_simp
                  have z1 : W1.cell? ⟨w11.heap.size, 1, none⟩ = some (.int .u64 L'[n].dist) := by rw [hW1]; go_simp
                  have z2 : W1.cell? ⟨w11.heap.size, 2, none⟩ = some (.slice qu nu cu) := by rw [hW1]; go_simp
                  have U1 := Lib.hid (own_below (own_below UW.out (Below.refl _ _)) b0)
                  clear hW1 hOq
                  refine region_go (fun w' => w'.cell? ⟨w11.heap.size, 0, none⟩ = some (.int .u64 L'[n].id) ∧ w'.cell? ⟨w11.heap.size, 1, none⟩ = some (.int .u64 L'[n].dist) ∧ w'.cell? ⟨w11.heap.size, 2, none⟩ = some (.slice qu nu cu)) (by kernel_rfl) ?hS0 (fun hH => ?_)
                  case hS0 =>
                    rw [← HW.out]; exact ⟨z0, z1, z2⟩
                  rw [← HW.out] at hH ⊢
                  refine tkY (v := ?_) 0 hH rfl (fun _ _ _ h => h) ?hc ?hw ?hy ?_
                  case hc => decide +kernel
                  case hw => rfl
                  case hy => (intro w hS; (try dsimp only at hS); go_simp; try with_reducible rfl)
                  (try simp only [Act.put]); (repeat (first | simp only [List.setIfInBounds_toArray] | simp only [List.set_cons_zero] | simp only [List.set_cons_succ]))
                  refine tkY (v := ?_) 1 hH rfl (fun _ _ _ h => h) ?hc ?hw ?hy ?_
                  case hc => decide +kernel
                  case hw => rfl
                  case hy => (intro w hS; (try dsimp only at hS); go_simp; try with_reducible rfl)
                  (try simp only [Act.put]); (repeat (first | simp only [List.setIfInBounds_toArray] | simp only [List.set_cons_zero] | simp only [List.set_cons_succ]))
                  refine spk 2 rfl ?hr ?hw (fun K' hK => ?_)
                  case hr => decide +kernel
                  case hw => rfl
                  go_simp
                  refine (sameHits_self _ _ L' _ _ _ (N1.out.below hbd) (X1.out.below hbd)).mono ?_
                  rintro e ws ⟨rfl, hds⟩
                  replace hbd := hbd.trans (hds.below.mono hbd.size)
                  clear hds
                  try dsimp only
                  refine hK.out _ _ ?hS (fun hH' => ?_)
                  case hS =>
                    exact ⟨below_cells hbd z0, below_cells hbd z1, below_cells hbd z2⟩
                  clear hK K' hH; have hH := hH'; clear hH'; (try simp only [Act.put]); (repeat (first | simp only [List.setIfInBounds_toArray] | simp only [List.set_cons_zero] | simp only [List.set_cons_succ]))
                  refine tkY (v := ?_) 3 hH rfl (fun _ _ _ h => h) ?hc ?hw ?hy ?_
                  case hc => decide +kernel
                  case hw => rfl
                  case hy => (intro w hS; (try dsimp only at hS); go_simp; try with_reducible rfl)
                  (try simp only [Act.put]); (repeat (first | simp only [List.setIfInBounds_toArray] | simp only [List.set_cons_zero] | simp only [List.set_cons_succ]))
                  refine tkY (v := ?_) 4 hH rfl (fun _ _ _ h => h) ?hc ?hw ?hy ?_
                  case hc => decide +kernel
                  case hw => rfl
                  case hy => (intro w hS; (try dsimp only at hS); go_simp; try with_reducible rfl)
                  (try simp only [Act.put]); (repeat (first | simp only [List.setIfInBounds_toArray] | simp only [List.set_cons_zero] | simp only [List.set_cons_succ]))
                  refine tkY (v := ?_) 5 hH rfl (fun _ _ _ h => h) ?hc ?hw ?hy ?_
                  case hc => decide +kernel
                  case hw => rfl
                  case hy => (intro w hS; (try dsimp only at hS); go_simp; try with_reducible rfl)
                  (try simp only [Act.put]); (repeat (first | simp only [List.setIfInBounds_toArray] | simp only [List.set_cons_zero] | simp only [List.set_cons_succ]))
                  refine tkY (v := ?_) 7 hH rfl (fun _ _ _ h => h) ?hc ?hw ?hy ?_
                  case hc => decide +kernel
                  case hw => rfl
                  case hy => (intro w hS; (try dsimp only at hS); go_simp; try with_reducible rfl)
                  (try simp only [Act.put]); (repeat (first | simp only [List.setIfInBounds_toArray] | simp only [List.set_cons_zero] | simp only [List.set_cons_succ]))
                  refine tkY (v := ?_) 8 hH rfl (fun _ _ _ h => h) ?hc ?hw ?hy ?_
                  case hc => decide +kernel
                  case hw => rfl
                  case hy => (intro w hS; (try dsimp only at hS); go_simp; try with_reducible rfl)
                  (try simp only [Act.put]); (repeat (first | simp only [List.setIfInBounds_toArray] | simp only [List.set_cons_zero] | simp only [List.set_cons_succ]))
                  refine spk 6 rfl ?hr ?hw (fun K' hK => ?_)
                  case hr => decide +kernel
                  case hw => rfl
                  go_simp
                  refine (len _ _ _ _ _ _ L' _ (O1.out.below hbd)).mono ?_
                  rintro e ws ⟨rfl, hws⟩
                  subst hws
                  try dsimp only
                  refine hK.out _ _ ?hS (fun hH' => ?_)
                  case hS =>
                    exact ⟨below_cells hbd z0, below_cells hbd z1, below_cells hbd z2⟩
                  clear hK K' hH; have hH := hH'; clear hH'; (try simp only [Act.put]); (repeat (first | simp only [List.setIfInBounds_toArray] | simp only [List.set_cons_zero] | simp only [List.set_cons_succ]))
                  refine tkY (v := ?_) 9 hH rfl (fun _ _ _ h => h) ?hc ?hw ?hy ?_
                  case hc => decide +kernel
                  case hw => rfl
                  case hy => (intro w hS; (try dsimp only at hS); go_simp; try with_reducible rfl)
                  (try simp only [Act.put]); (repeat (first | simp only [List.setIfInBounds_toArray] | simp only [List.set_cons_zero] | simp only [List.set_cons_succ]))
                  refine tkY (v := ?_) 10 hH rfl (fun _ _ _ h => h) ?hc ?hw ?hy ?_
                  case hc => decide +kernel
                  case hw => rfl
                  case hy => (intro w hS; (try dsimp only at hS); go_simp; try with_reducible rfl)
                  (try simp only [Act.put]); (repeat (first | simp only [List.setIfInBounds_toArray] | simp only [List.set_cons_zero] | simp only [List.set_cons_succ]))
                  refine tkY (v := ?_) 11 hH rfl (fun _ _ _ h => h) ?hc ?hw ?hy ?_
                  case hc => decide +kernel
                  case hw => rfl
                  case hy => (intro w hS; (try dsimp only at hS); go_simp; try with_reducible rfl)
                  (try simp only [Act.put]); (repeat (first | simp only [List.setIfInBounds_toArray] | simp only [List.set_cons_zero] | simp only [List.set_cons_succ]))
                  refine tkY (v := ?_) 12 hH rfl (fun _ _ _ h => h) ?hc ?hw ?hy ?_
                  case hc => decide +kernel
                  case hw => rfl
                  case hy => (intro w hS; (try dsimp only at hS); go_simp; try with_reducible rfl)
                  (try simp only [Act.put]); (repeat (first | simp only [List.setIfInBounds_toArray] | simp only [List.set_cons_zero] | simp only [List.set_cons_succ]))
                  refine tkY (v := ?_) 13 hH rfl (fun _ _ _ h => h) ?hc ?hw ?hy ?_
                  case hc => decide +kernel
                  case hw => rfl
                  case hy => (intro w hS; (try dsimp only at hS); go_simp; try with_reducible rfl)
                  (try simp only [Act.put]); (repeat (first | simp only [List.setIfInBounds_toArray] | simp only [List.set_cons_zero] | simp only [List.set_cons_succ]))
                  refine tkY (v := ?_) 14 hH rfl (fun _ _ _ h => h) ?hc ?hw ?hy ?_
                  case hc => decide +kernel
                  case hw => rfl
                  case hy => (intro w hS; (try dsimp only at hS); go_simp; try with_reducible rfl)
                  (try simp only [Act.put]); (repeat (first | simp only [List.setIfInBounds_toArray] | simp only [List.set_cons_zero] | simp only [List.set_cons_succ]))
                  refine tkY (v := ?_) 15 hH rfl (fun _ _ _ h => h) ?hc ?hw ?hy ?_
                  case hc => decide +kernel
                  case hw => rfl
                  case hy => (intro w hS; (try dsimp only at hS); go_simp; try with_reducible rfl)
                  (try simp only [Act.put]); (repeat (first | simp only [List.setIfInBounds_toArray] | simp only [List.set_cons_zero] | simp only [List.set_cons_succ]))
                  refine tkY (v := ?_) 16 hH rfl (fun _ _ _ h => h) ?hc ?hw ?hy ?_
                  case hc => decide +kernel
                  case hw => rfl
                  case hy => (intro w hS; (try dsimp only at hS); go_simp; try with_reducible rfl)
                  (try simp only [Act.put]); (repeat (first | simp only [List.setIfInBounds_toArray] | simp only [List.set_cons_zero] | simp only [List.set_cons_succ]))
                  refine tkY (v := ?_) 17 hH rfl (fun _ _ _ h => h) ?hc ?hw ?hy ?_
                  case hc => decide +kernel
                  case hw => rfl
                  case hy => (intro w hS; (try dsimp only at hS); go_simp; try with_reducible rfl)
                  (try simp only [Act.put]); (repeat (first | simp only [List.setIfInBounds_toArray] | simp only [List.set_cons_zero] | simp only [List.set_cons_succ]))
                  refine tkY (v := ?_) 18 hH rfl (fun _ _ _ h => h) ?hc ?hw ?hy ?_
                  case hc => decide +kernel
                  case hw => rfl
                  case hy => (intro w hS; (try dsimp only at hS); go_simp; try with_reducible rfl)
                  (try simp only [Act.put]); (repeat (first | simp only [List.setIfInBounds_toArray] | simp only [List.set_cons_zero] | simp only [List.set_cons_succ]))
                  refine tkY (v := ?_) 19 hH rfl (fun _ _ _ h => h) ?hc ?hw ?hy ?_
                  case hc => decide +kernel
                  case hw => rfl
                  case hy => (intro w hS; (try dsimp only at hS); go_simp; try with_reducible rfl)
                  (try simp only [Act.put]); (repeat (first | simp only [List.setIfInBounds_toArray] | simp only [List.set_cons_zero] | simp only [List.set_cons_succ]))
                  refine tkY (v := ?_) 20 hH rfl (fun _ _ _ h => h) ?hc ?hw ?hy ?_
                  case hc => decide +kernel
                  case hw => rfl
                  case hy => (intro w hS; (try dsimp only at hS); go_simp; try with_reducible rfl)
                  (try simp only [Act.put]); (repeat (first | simp only [List.setIfInBounds_toArray] | simp only [List.set_cons_zero] | simp only [List.set_cons_succ]))
                  refine tkY (v := ?_) 21 hH rfl (fun _ _ _ h => h) ?hc ?hw ?hy ?_
                  case hc => decide +kernel
                  case hw => rfl
                  case hy => (intro w hS; (try dsimp only at hS); go_simp; try with_reducible rfl)
                  (try simp only [Act.put]); (repeat (first | simp only [List.setIfInBounds_toArray] | simp only [List.set_cons_zero] | simp only [List.set_cons_succ]))
                  refine tkY (v := ?_) 23 hH rfl (fun _ _ _ h => h) ?hc ?hw ?hy ?_
                  case hc => decide +kernel
                  case hw => rfl
                  case hy => (intro w hS; (try dsimp only at hS); go_simp; try with_reducible rfl)
                  (try simp only [Act.put]); (repeat (first | simp only [List.setIfInBounds_toArray] | simp only [List.set_cons_zero] | simp only [List.set_cons_succ]))
                  refine tkY (v := ?_) 24 hH rfl (fun _ _ _ h => h) ?hc ?hw ?hy ?_
                  case hc => decide +kernel
                  case hw => rfl
                  case hy => (intro w hS; (try dsimp only at hS); go_simp; try with_reducible rfl)
                  (try simp only [Act.put]); (repeat (first | simp only [List.setIfInBounds_toArray] | simp only [List.set_cons_zero] | simp only [List.set_cons_succ]))
                  refine tkY (v := ?_) 25 hH rfl (fun _ _ _ h => h) ?hc ?hw ?hy ?_
                  case hc => decide +kernel
                  case hw => rfl
                  case hy => (intro w hS; (try dsimp only at hS); go_simp; try with_reducible rfl)
                  (try simp only [Act.put]); (repeat (first | simp only [List.setIfInBounds_toArray] | simp only [List.set_cons_zero] | simp only [List.set_cons_succ]))
                  refine tkY (v := ?_) 26 hH rfl (fun _ _ _ h => h) ?hc ?hw ?hy ?_
                  case hc => decide +kernel
                  case hw => rfl
                  case hy => (intro w hS; (try dsimp only at hS); go_simp; try with_reducible rfl)
                  (try simp only [Act.put]); (repeat (first | simp only [List.setIfInBounds_toArray] | simp only [List.set_cons_zero] | simp only [List.set_cons_succ]))
                  refine tkY (v := ?_) 27 hH rfl (fun _ _ _ h => h) ?hc ?hw ?hy ?_
                  case hc => decide +kernel
                  case hw => rfl
                  case hy => (intro w hS; (try dsimp only at hS); go_simp; try with_reducible rfl)
                  (try simp only [Act.put]); (repeat (first | simp only [List.setIfInBounds_toArray] | simp only [List.set_cons_zero] | simp only [List.set_cons_succ]))
                  refine spk 22 rfl ?hr ?hw (fun K' hK => ?_)
                  case hr => decide +kernel
                  case hw => rfl
                  go_simp
                  have ONE := one_hit (h := L'[n]) (E := fun k => (Value.slice qu nu cu).ownBlock = some k) (Nums.of_own (own_below U1.out hbd)) (fun _ k hk => hk)
                  replace hbd := hbd.alloc hbd.size (.cells #[.int .u64 L'[n].id, .int .u64 L'[n].dist, .slice qu nu cu] 35)
                  try dsimp only
                  refine hK.out _ _ ?hS (fun hH' => ?_)
                  case hS =>
                    exact ⟨below_cells hbd z0, below_cells hbd z1, below_cells hbd z2⟩
                  clear hK K' hH; have hH := hH'; clear hH'; (try simp only [Act.put]); (repeat (first | simp only [List.setIfInBounds_toArray] | simp only [List.set_cons_zero] | simp only [List.set_cons_succ]))
                  refine spk 28 rfl ?hr ?hw (fun K' hK => ?_)
                  case hr => decide +kernel
                  case hw => rfl
                  go_simp
                  refine (sameHits_self _ _ [L'[n]] _ _ _ ONE ((X1.out.below hbd).last HN.out hnl)).mono ?_
                  rintro e ws ⟨rfl, hds⟩
                  replace hbd := hbd.trans (hds.below.mono hbd.size)
                  clear hds ONE
                  try dsimp only
                  refine hK.out _ _ ?hS (fun hH' => ?_)
                  case hS =>
                    exact ⟨below_cells hbd z0, below_cells hbd z1, below_cells hbd z2⟩
                  clear hK K' hH; have hH := hH'; clear hH'; (try simp only [Act.put]); (repeat (first | simp only [List.setIfInBounds_toArray] | simp only [List.set_cons_zero] | simp only [List.set_cons_succ]))
                  refine tkY (v := ?_) 29 hH rfl (fun _ _ _ h => h) ?hc ?hw ?hy ?_
                  case hc => decide +kernel
                  case hw => rfl
                  case hy => (intro w hS; (try dsimp only at hS); go_simp; try with_reducible rfl)
                  (try simp only [Act.put]); (repeat (first | simp only [List.setIfInBounds_toArray] | simp only [List.set_cons_zero] | simp only [List.set_cons_succ]))
                  refine tkY (v := ?_) 30 hH rfl (fun _ _ _ h => h) ?hc ?hw ?hy ?_
                  case hc => decide +kernel
                  case hw => rfl
                  case hy => (intro w hS; (try dsimp only at hS); go_simp; try with_reducible rfl)
                  (try simp only [Act.put]); (repeat (first | simp only [List.setIfInBounds_toArray] | simp only [List.set_cons_zero] | simp only [List.set_cons_succ]))
                  refine tkY (v := ?_) 31 hH rfl (fun _ _ _ h => h) ?hc ?hw ?hy ?_
                  case hc => decide +kernel
                  case hw => rfl
                  case hy => (intro w hS; (try dsimp only at hS); go_simp; try with_reducible rfl)
                  (try simp only [Act.put]); (repeat (first | simp only [List.setIfInBounds_toArray] | simp only [List.set_cons_zero] | simp only [List.set_cons_succ]))
                  refine tkY (v := ?_) 32 hH rfl (fun _ _ _ h => h) ?hc ?hw ?hy ?_
                  case hc => decide +kernel
                  case hw => rfl
                  case hy => (intro w hS; (try dsimp only at hS); go_simp; try with_reducible rfl)
                  (try simp only [Act.put]); (repeat (first | simp only [List.setIfInBounds_toArray] | simp only [List.set_cons_zero] | simp only [List.set_cons_succ]))
                  refine tkY (v := ?_) 33 hH rfl (fun _ _ _ h => h) ?hc ?hw ?hy ?_
                  case hc => decide +kernel
                  case hw => rfl
                  case hy => (intro w hS; (try dsimp only at hS); go_simp; try with_reducible rfl)
                  (try simp only [Act.put]); (repeat (first | simp only [List.setIfInBounds_toArray] | simp only [List.set_cons_zero] | simp only [List.set_cons_succ]))
                  refine tkY (v := ?_) 35 hH rfl (fun _ _ _ h => h) ?hc ?hw ?hy ?_
                  case hc => decide +kernel
                  case hw => rfl
                  case hy => (intro w hS; (try dsimp only at hS); go_simp; try with_reducible rfl)
                  (try simp only [Act.put]); (repeat (first | simp only [List.setIfInBounds_toArray] | simp only [List.set_cons_zero] | simp only [List.set_cons_succ]))
                  refine tkY (v := ?_) 36 hH rfl (fun _ _ _ h => h) ?hc ?hw ?hy ?_
                  case hc => decide +kernel
                  case hw => rfl
                  case hy => (intro w hS; (try dsimp only at hS); go_simp; try with_reducible rfl)
                  (try simp only [Act.put]); (repeat (first | simp only [List.setIfInBounds_toArray] | simp only [List.set_cons_zero] | simp only [List.set_cons_succ]))
                  refine spk 34 rfl ?hr ?hw (fun K' hK => ?_)
                  case hr => decide +kernel
                  case hw => rfl
                  go_simp
                  refine (full _ _ _ _ _ _ L' _ (O1.out.below hbd)).mono ?_
                  rintro e ws ⟨rfl, hds⟩
                  replace hbd := hbd.trans (hds.below.mono hbd.size)
                  clear hds
                  try dsimp only
                  refine hK.out _ _ ?hS (fun hH' => ?_)
                  case hS =>
                    exact ⟨below_cells hbd z0, below_cells hbd z1, below_cells hbd z2⟩
                  clear hK K' hH; have hH := hH'; clear hH'; (try simp only [Act.put]); (repeat (first | simp only [List.setIfInBounds_toArray] | simp only [List.set_cons_zero] | simp only [List.set_cons_succ]))
                  refine tkY (v := ?_) 37 hH rfl (fun _ _ _ h => h) ?hc ?hw ?hy ?_
                  case hc => decide +kernel
                  case hw => rfl
                  case hy => (intro w hS; (try dsimp only at hS); go_simp; try with_reducible rfl)
                  (try simp only [Act.put]); (repeat (first | simp only [List.setIfInBounds_toArray] | simp only [List.set_cons_zero] | simp only [List.set_cons_succ]))
                  refine tkY (v := ?_) 38 hH rfl (fun _ _ _ h => h) ?hc ?hw ?hy ?_
                  case hc => decide +kernel
                  case hw => rfl
                  case hy => (intro w hS; (try dsimp only at hS); go_simp; try with_reducible rfl)
                  (try simp only [Act.put]); (repeat (first | simp only [List.setIfInBounds_toArray] | simp only [List.set_cons_zero] | simp only [List.set_cons_succ]))
                  refine tkY (v := ?_) 39 hH rfl (fun _ _ _ h => h) ?hc ?hw ?hy ?_
                  case hc => decide +kernel
                  case hw => rfl
                  case hy => (intro w hS; (try dsimp only at hS); go_simp; try with_reducible rfl)
                  (try simp only [Act.put]); (repeat (first | simp only [List.setIfInBounds_toArray] | simp only [List.set_cons_zero] | simp only [List.set_cons_succ]))
                  refine tkY (v := ?_) 40 hH rfl (fun _ _ _ h => h) ?hc ?hw ?hy ?_
                  case hc => decide +kernel
                  case hw => rfl
                  case hy => (intro w hS; (try dsimp only at hS); go_simp; try with_reducible rfl)
                  (try simp only [Act.put]); (repeat (first | simp only [List.setIfInBounds_toArray] | simp only [List.set_cons_zero] | simp only [List.set_cons_succ]))
                  refine tkY (v := ?_) 41 hH rfl (fun _ _ _ h => h) ?hc ?hw ?hy ?_
                  case hc => decide +kernel
                  case hw => rfl
                  case hy => (intro w hS; (try dsimp only at hS); go_simp; try with_reducible rfl)
                  (try simp only [Act.put]); (repeat (first | simp only [List.setIfInBounds_toArray] | simp only [List.set_cons_zero] | simp only [List.set_cons_succ]))
                  refine tkY (v := ?_) 42 hH rfl (fun _ _ _ h => h) ?hc ?hw ?hy ?_
                  case hc => decide +kernel
                  case hw => rfl
                  case hy => (intro w hS; (try dsimp only at hS); go_simp; try with_reducible rfl)
                  (try simp only [Act.put]); (repeat (first | simp only [List.setIfInBounds_toArray] | simp only [List.set_cons_zero] | simp only [List.set_cons_succ]))
                  refine tkY (v := ?_) 43 hH rfl (fun _ _ _ h => h) ?hc ?hw ?hy ?_
                  case hc => decide +kernel
                  case hw => rfl
                  case hy => (intro w hS; (try dsimp only at hS); go_simp; try with_reducible rfl)
                  (try simp only [Act.put]); (repeat (first | simp only [List.setIfInBounds_toArray] | simp only [List.set_cons_zero] | simp only [List.set_cons_succ]))
                  refine tkY (v := ?_) 44 hH rfl (fun _ _ _ h => h) ?hc ?hw ?hy ?_
                  case hc => decide +kernel
                  case hw => rfl
                  case hy => (intro w hS; (try dsimp only at hS); go_simp; try with_reducible rfl)
                  (try simp only [Act.put]); (repeat (first | simp only [List.setIfInBounds_toArray] | simp only [List.set_cons_zero] | simp only [List.set_cons_succ]))
                  refine wpAnyH_done (by decide +kernel) ?_ _
                  have BD := Lib.hid (b0.trans (hbd.mono b0.size))
                  have Bs := Lib.hid ((((B8.out.below hw9.out.2).below N10B.out).below B11.out).below BD.out)
                  have BWs := Lib.hid (BW8.out.trans ((hw9.out.2.trans ((N10B.out.trans ((B11.out.trans (BD.out.mono B11.out.size)).mono N10B.out.size)).mono hw9.out.2.size)).mono BW8.out.size))
                  have hs11 := B11.out.size
                  have FSt := Lib.hid (FSG.out.keep (w' := ws) fun q h1 h2 => (BD.out.block q (by omega)).trans (B11.out.block q h2))
                  clear hH hbd HW b0 N1 X1 O1
                  go_wp2_with fail
                  go_loopg [176] L'.length (fun q' i wr => ∃ k, q' = L'.length - k ∧ k ≤ L'.length ∧ i = .int .i64 k ∧ FlipS wr w9.heap.size w10.heap.size L'.length (.slice qg L'.length cg) rsg lng ∧ Mod (fun k => w9.heap.size ≤ k ∧ k < w10.heap.size) ws wr)
                  case atStart => exact ⟨0, rfl, by omega, rfl, FSt.out, Mod.refl _ _⟩
                  case round =>
                    obtain ⟨fk, rfl, hfk, rfl, hFS, hFm⟩ := hrel
                    have F1 := Lib.hid (And.intro hFS hFm)
                    clear hFS hFm
                    by_cases hflt : fk < L'.length
                    · obtain ⟨fg, fcg, fq, fcap, hfv, fc2, hbl, -⟩ := F1.out.1.at hflt
                      obtain ⟨rfl, -, rfl⟩ := Value.slice.inj hfv
                      have f0 : (0 : Int) ≤ (fk : Int) := by omega
                      have f1 : (fk : Int) < (L'.length : Int) := by omega
                      clear hfv
                      obtain ⟨wm, rfl⟩ : ∃ wm : World, wm = wr := ⟨_, rfl⟩
                      go_wp2_with fail
                      go_loopg [185] (lng fk) (fun q' i wr => ∃ c, q' = lng fk - c ∧ c ≤ lng fk ∧ i = .int .i64 c ∧ FlipS wr w9.heap.size w10.heap.size L'.length (.slice (some ⟨fg, 0, none⟩) L'.length cg) rsg lng ∧ Mod (fun k => w9.heap.size ≤ k ∧ k < w10.heap.size) ws wr)
                      case atStart => exact ⟨0, rfl, by omega, rfl, F1.out.1, F1.out.2⟩
                      case round =>
                        obtain ⟨fc, rfl, hfc, rfl, hFS2, hFm2⟩ := hrel
                        have F2 := Lib.hid (And.intro hFS2 hFm2)
                        clear hFS2 hFm2
                        by_cases hfct : fc < lng fk
                        · obtain ⟨g', cg', fq2, fcap2, hv2, gc2, -, hcells⟩ := F2.out.1.at hflt
                          obtain ⟨hgg, -, -⟩ := Value.slice.inj hv2
                          obtain rfl : fg = g' := by simpa using hgg
                          obtain ⟨fb, fx, rfl, hlo, hhi, d0, df, hfl⟩ := hcells fc hfct
                          have FL := Lib.hid (And.intro hfl (And.intro hlo hhi))
                          have h0 : (0 : Int) ≤ (fc : Int) := by omega
                          have h1 : (fc : Int) < (lng fk : Int) := by omega
                          clear hv2 hgg hcells hfl hlo hhi
                          go_wp2_with fail
                          go_roundg (lng fk - (fc + 1))
                          case measure => omega
                          case rel => exact ⟨fc + 1, rfl, by omega, by go_num, FL.out.1 _, F2.out.2.setCell (.inl FL.out.2) _⟩
                        · obtain rfl : lng fk = fc := by omega
                          go_wp2_with fail
                          go_roundg (L'.length - (fk + 1))
                          case measure => omega
                          case rel => exact ⟨fk + 1, rfl, by omega, by go_num, F2.out.1, F2.out.2⟩
                    · obtain rfl : L'.length = fk := by omega
                      have hsz9 := F1.out.2.size
                      have Bz := Lib.hid (Bs.out.mod F1.out.2 (fun q hq hr => by
                        rcases hq with hq | hq
                        · have := (B8.out.lh q hq).1; omega
                        · have := B8.out.rh q hq; omega))
                      have BWz := Lib.hid (BWs.out.trans (F1.out.2.below (B := w.heap.size) BWs.out.size fun q hq => by have := BW8.out.size; omega))
                      go_wp2_with fail
                      go_roundg (ls0.length - (k + 1))
                      case measure => omega
                      case rel => exact ⟨k + 1, L', _, _, rfl, by omega, by go_num, Bz.out, BWz.out⟩
      · have g20 : decide ((20 : Int) ≤ (k : Int)) = true := decide_eq_true (by omega)
        obtain ⟨b, off, q, qc, rfl, c0, hhit⟩ := H.out.elem hlt
        replace c0 := below_cells M.out.2 c0
        clear hhit
        go_wp2_with fail
        go_ret
        exact ⟨rfl, M.out.2⟩
    · obtain rfl : k = ls0.length := by omega
      go_wp2_with fail
      go_ret
      exact ⟨rfl, M.out.2⟩

end Go.Proofs.Ytfjhipaoljnfaaa
