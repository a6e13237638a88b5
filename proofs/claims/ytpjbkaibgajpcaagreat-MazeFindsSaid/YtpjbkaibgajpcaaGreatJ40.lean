/- maze's document: Put. -/
import Derived.Test.YtpjbkaibgajpcaaGreatJ39
namespace Go.Proofs.YtpjbkaibgajpcaaGreat
open Go.RowKit Go.ChangeMaps
set_option maxRecDepth 20000

theorem entry_at {L : List Hz} (h : 0 < L.length) : entryZ L = L[0].id := by
  cases L with
  | nil => simp at h
  | cons a l => rfl

def NewR (w : World) (rs rs' : List Hv) : Prop := ∀ r ∈ rs', ∀ b, r.vec.ownBlock = some b → (∃ q ∈ rs, q.vec.ownBlock = some b) ∨ w.heap.size ≤ b


set_option maxRecDepth 100000 in
set_option maxHeartbeats 16000000 in
theorem rPut {B : Nat} {w : World} {x c : Nat} {dim : Int} {vn ve lv : Value} {rs : List Hv} {s : Mz} (h : RzAt B w x c dim vn ve lv rs s) (ok : OkM dim s) (hL : s.L.length ≤ 900) (k : Int) (v : Value) (xs : List Int) (hv : Nums w .i32 v xs) (ht : LiesIn (OfType w 21) v xs.length) :
    Calls Tryz.prog 36 #[.pointer (some ⟨x, 0, none⟩), .int .u64 k, v] w fun e w' => e = .returned (.int .i64 (putM dim s k xs).1) ∧ (∃ vn ve lv rs', RzAt B w' x c dim vn ve lv rs' (putM dim s k xs).2 ∧ NewR w rs rs') ∧ Mod (RTurn w B) w w' := by
  have hNL := ok_len ok
  have hEf := ok.few
  have hlr : rs.length = s.L.length := h.held.len
  obtain ⟨lp, ln, lc, hlv⟩ := own_form h.row
  subst hlv
  obtain rfl : ln = rs.length := own_len h.row
  have H := Lib.hid h
  have cR := Lib.hid (rRight w x dim v xs (cellsB h.cell 0) hv)
  have cH := Lib.hid (sw (dHas w B c s.N s.E vn ve k h.doc))
  have V := Lib.hid (And.intro hv ht)
  have OK := Lib.hid ok
  obtain ⟨vq, vc, rfl, -, -, -, -⟩ := hv.slice
  have hx8 : rightZ dim xs = true → xs.length ≤ 8 := by
    intro hr
    unfold rightZ at hr
    simp only [Bool.and_eq_true, decide_eq_true_eq] at hr
    have h1 := hr.1
    unfold rightB at h1
    simp only [Bool.and_eq_true, decide_eq_true_eq] at h1
    omega
  have x1 := cellsB h.cell 1
  unfold putM
  cases hr : rightZ dim xs with
  | false =>
    rw [if_pos rfl]
    rw [hr] at cR
    clear h ok hv ht hx8 hr
    go_enter Tryz.func36, Tryz.ntmps36
    go_wp2_with fail
    (with_reducible refine cR.out.mono ?_)
    rintro e w1 ⟨rfl, rfl⟩
    go_wp2_with fail
    go_ret
    exact ⟨rfl, ⟨_, _, _, _, H.out, fun r hr b hb => .inl ⟨r, hr, hb⟩⟩, Mod.refl _ _⟩
  | true =>
    rw [if_neg (by simp)]
    rw [hr] at cR
    by_cases hk : k ∈ s.N
    · rw [if_pos hk]
      rw [decide_eq_true hk] at cH
      clear h ok hv ht hx8 hr hk
      go_enter Tryz.func36, Tryz.ntmps36
      go_wp2_with fail
      (with_reducible refine cR.out.mono ?_)
      rintro e w1 ⟨rfl, rfl⟩
      go_wp2_with fail
      (with_reducible refine cH.out.mono ?_)
      rintro e w2 ⟨rfl, rfl⟩
      go_wp2_with fail
      go_ret
      exact ⟨rfl, ⟨_, _, _, _, H.out, fun r hr b hb => .inl ⟨r, hr, hb⟩⟩, Mod.refl _ _⟩
    · rw [if_neg hk]
      rw [decide_eq_false hk] at cH
      have HK := Lib.hid hk
      have HR := Lib.hid hr
      have hx8 := hx8 hr
      obtain ⟨NF, hNF⟩ : ∃ l, l = if s.L = [] then [] else (resW (spaceZ s.L xs) s.E 16 [entryZ s.L]).1 := ⟨_, rfl⟩
      have hNM : nearM s xs = NF.take 4 := by rw [hNF]; unfold nearM; split <;> simp
      have hNFb : (∀ y ∈ NF, y.vec = []) ∧ NF.length ≤ 16 := by
        rw [hNF]
        split
        · simp
        · exact resW_bare _ _ (by omega) _
      have HLR := Lib.hid hlr
      clear h ok hv ht hr hk hlr
      go_enter Tryz.func36, Tryz.ntmps36
      go_wp2_with fail
      (with_reducible refine cR.out.mono ?_)
      rintro e w1 ⟨rfl, rfl⟩
      go_wp2_with fail
      (with_reducible refine cH.out.mono ?_)
      rintro e w2 ⟨rfl, rfl⟩
      have x2 := cellsB H.out.cell 2
      go_upto_if 35 with fail
      go_cut [7, 35] (fun st _ wc => ∃ np nc, st = .slice np NF.length nc ∧ HitsT wc (.slice np NF.length nc) NF ∧ Below w2.heap.size w2 wc)
      case first =>
        by_cases hL0 : s.L = []
        · have hn0 : ¬ 0 < rs.length := by rw [HLR.out, hL0]; simp
          have hn1 : ¬ (0 : Int) < rs.length := by omega
          have hn2 : decide (0 < rs.length) = false := decide_eq_false hn0
          have FX := Lib.hid (show NF = [] from by rw [hNF, if_pos hL0])
          clear hNM hNFb hNF hL0
          go_wp2_with fail
          go_meet
          exact ⟨none, 0, by rw [FX.out]; rfl, by rw [FX.out]; exact HitsF.nil _ _, Below.refl _ _⟩
        · have hn0 : 0 < rs.length := by
            rw [HLR.out]
            exact List.length_pos_iff.2 hL0
          have hn1 : (0 : Int) < rs.length := by omega
          have hn2 : decide (0 < rs.length) = true := decide_eq_true hn0
          obtain ⟨W4, hW4⟩ : ∃ W4, W4 = w2.drew := ⟨_, rfl⟩
          have hb4 : Below w2.heap.size w2 W4 := by rw [hW4]; exact (Below.refl _ _).drew
          have H4 := Lib.hid (H.out.below hb4)
          have B4 := Lib.hid hb4
          have cS := Lib.hid (fun W (hW : Below W4.heap.size W4 W) => rSpace (H4.out.below hW) hL (.slice vq xs.length vc) xs ((V.out.1.below hb4).below hW))
          obtain ⟨g0, cg, hv0, -, -⟩ := H.out.row.form hn0
          obtain ⟨rfl, -, rfl⟩ := Value.slice.inj hv0
          have e0 := own_cell H4.out.row rfl (flat3_get rs 0 hn0).1
          simp only [Nat.zero_mul] at e0
          obtain ⟨yi, hyi⟩ : ∃ i, i = rs[0].id := ⟨_, rfl⟩
          rw [← hyi] at e0
          have hye : entryZ s.L = yi := by
            rw [hyi, (H.out.held.own 0 hn0 (by rw [← HLR.out]; exact hn0)).1.1]
            exact entry_at (by rw [← HLR.out]; exact hn0)
          have HNF := Lib.hid (show NF = (resW (spaceZ s.L xs) s.E 16 [yi]).1 from by rw [hNF, if_neg hL0, hye])
          have RA := Lib.hid (H4.out.walkA hL (by omega) xs 16 (by decide) yi)
          have RB := Lib.hid (H4.out.walkB hL (by omega) xs 16 (by decide) yi)
          rw [← HNF.out, show ((16 : Nat) : Int) = 16 from rfl] at RA RB
          have I4 := Lib.hid (And.intro (cellsB H4.out.cell 2) e0)
          have HW := Lib.hid hW4
          have NB := Lib.hid hNFb
          clear hNM hNFb hNF hye hyi e0 hW4 hb4 hL0 hv0
          have k0 : (0 : Int) ≤ 0 ∧ (0 : Int) < rs.length := by omega
          go_upto_region 9 with fail
          refine region_go (fun w' => w'.cell? ⟨x, 2, none⟩ = some (.slice (some ⟨g0, 0, none⟩) rs.length lc) ∧ w'.cell? ⟨g0, 0, none⟩ = some (.int .u64 yi)) (by kernel_rfl) ?hS0 (fun hH => ?_)
          case hS0 =>
            rw [← HW.out]; exact I4.out
          rw [← HW.out] at hH ⊢
          refine kY 0 hH ?_
          repeat simp only [Act.put, uA1, uB1, uC1]
          refine kY 1 hH ?_
          repeat simp only [Act.put, uA1, uB1, uC1]
          refine kY 3 hH ?_
          repeat simp only [Act.put, uA1, uB1, uC1]
          refine kY 4 hH ?_
          repeat simp only [Act.put, uA1, uB1, uC1]
          refine kY 5 hH ?_
          repeat simp only [Act.put, uA1, uB1, uC1]
          refine kY 6 hH ?_
          repeat simp only [Act.put, uA1, uB1, uC1]
          refine kY 7 hH ?_
          repeat simp only [Act.put, uA1, uB1, uC1]
          refine kY 8 hH ?_
          repeat simp only [Act.put, uA1, uB1, uC1]
          refine kY 9 hH ?_
          repeat simp only [Act.put, uA1, uB1, uC1]
          refine spB 2 10 rfl rfl ?hr ?hw ?hv (fun K' hK => ?b1_1) (fun K' hK => ?b2_1)
          case hr => decide +kernel
          case hw => rfl
          case hv => rfl
          case b1_1 =>
            go_simp
            with_reducible refine (cS.out _ (by first | exact Below.refl _ _ | exact (Below.refl _ _).alloc (Nat.le_refl _) _)).mono ?_
            rintro e w5 ⟨sx, sv, rfl, hS5⟩
            try dsimp only
            refine hK.out _ _ ?hS (fun hH' => ?_)
            case hS =>
              exact ⟨below_cells hS5.old hH.1, below_cells hS5.old hH.2⟩
            clear hK K' hH; have hH := hH'; clear hH'; repeat simp only [Act.put, uA1, uB1, uC1]
            refine spk 10 rfl (by decide +kernel) (by rfl) (fun K' hK => ?_)
            go_simp
            try dsimp only
            refine hK.out _ _ ?hS (fun hH' => ?_)
            case hS =>
              exact ⟨below_cells ((Below.refl _ _).alloc (Nat.le_refl _) _) hH.1, below_cells ((Below.refl _ _).alloc (Nat.le_refl _) _) hH.2⟩
            clear hK K' hH; have hH := hH'; clear hH'; repeat simp only [Act.put, uA1, uB1, uC1]
            refine spk 11 rfl (by decide +kernel) (by rfl) (fun K' hK => ?_)
            go_simp
            first
            | (with_reducible refine (RA.out _ _ _ hS5).mono ?_)
            | (with_reducible refine (RB.out _ _ _ hS5).mono ?_)
            rintro e w8 ⟨v8, rs8, rfl, ho8, hr8, hb8⟩
            obtain ⟨p8, n8, c8, rfl⟩ := own_form ho8
            obtain rfl : n8 = NF.length := own_len ho8
            have T8 := Lib.hid (show HitsT w8 (.slice p8 NF.length c8) NF from HitsF.of_own ho8 (fun b hb => own_type ho8 hb) (rows_bare hr8 NB.out.1))
            have B8 := Lib.hid (B4.out.trans (hb8.mono B4.out.size))
            clear ho8 hr8
            try dsimp only
            refine hK.out _ _ ?hS (fun hH' => ?_)
            case hS =>
              exact ⟨below_cells hb8 I4.out.1, below_cells hb8 I4.out.2⟩
            clear hK K' hH; have hH := hH'; clear hH'; repeat simp only [Act.put, uA1, uB1, uC1]
            refine kY 12 hH ?_
            repeat simp only [Act.put, uA1, uB1, uC1]
            refine kY 13 hH ?_
            repeat simp only [Act.put, uA1, uB1, uC1]
            refine kY 14 hH ?_
            repeat simp only [Act.put, uA1, uB1, uC1]
            refine kY 15 hH ?_
            repeat simp only [Act.put, uA1, uB1, uC1]
            refine wpAnyH_done (by decide +kernel) ?_ _
            clear hH hb8
            go_wp2_with fail
            go_meet
            exact ⟨p8, c8, rfl, T8.out, B8.out⟩
          case b2_1 =>
            go_simp
            try dsimp only
            refine hK.out _ _ ?hS (fun hH' => ?_)
            case hS =>
              exact ⟨below_cells ((Below.refl _ _).alloc (Nat.le_refl _) _) hH.1, below_cells ((Below.refl _ _).alloc (Nat.le_refl _) _) hH.2⟩
            clear hK K' hH; have hH := hH'; clear hH'; repeat simp only [Act.put, uA1, uB1, uC1]
            refine spk 2 rfl (by decide +kernel) (by rfl) (fun K' hK => ?_)
            go_simp
            with_reducible refine (cS.out _ (by first | exact Below.refl _ _ | exact (Below.refl _ _).alloc (Nat.le_refl _) _)).mono ?_
            rintro e w5 ⟨sx, sv, rfl, hS5⟩
            try dsimp only
            refine hK.out _ _ ?hS (fun hH' => ?_)
            case hS =>
              exact ⟨below_cells hS5.old hH.1, below_cells hS5.old hH.2⟩
            clear hK K' hH; have hH := hH'; clear hH'; repeat simp only [Act.put, uA1, uB1, uC1]
            refine spk 11 rfl (by decide +kernel) (by rfl) (fun K' hK => ?_)
            go_simp
            first
            | (with_reducible refine (RA.out _ _ _ hS5).mono ?_)
            | (with_reducible refine (RB.out _ _ _ hS5).mono ?_)
            rintro e w8 ⟨v8, rs8, rfl, ho8, hr8, hb8⟩
            obtain ⟨p8, n8, c8, rfl⟩ := own_form ho8
            obtain rfl : n8 = NF.length := own_len ho8
            have T8 := Lib.hid (show HitsT w8 (.slice p8 NF.length c8) NF from HitsF.of_own ho8 (fun b hb => own_type ho8 hb) (rows_bare hr8 NB.out.1))
            have B8 := Lib.hid (B4.out.trans (hb8.mono B4.out.size))
            clear ho8 hr8
            try dsimp only
            refine hK.out _ _ ?hS (fun hH' => ?_)
            case hS =>
              exact ⟨below_cells hb8 I4.out.1, below_cells hb8 I4.out.2⟩
            clear hK K' hH; have hH := hH'; clear hH'; repeat simp only [Act.put, uA1, uB1, uC1]
            refine kY 12 hH ?_
            repeat simp only [Act.put, uA1, uB1, uC1]
            refine kY 13 hH ?_
            repeat simp only [Act.put, uA1, uB1, uC1]
            refine kY 14 hH ?_
            repeat simp only [Act.put, uA1, uB1, uC1]
            refine kY 15 hH ?_
            repeat simp only [Act.put, uA1, uB1, uC1]
            refine wpAnyH_done (by decide +kernel) ?_ _
            clear hH hb8
            go_wp2_with fail
            go_meet
            exact ⟨p8, c8, rfl, T8.out, B8.out⟩
      case rest =>
        obtain ⟨np, nc, rfl, hT, hB⟩ := hcut
        have T5 := Lib.hid hT
        have A5 := Lib.hid (H.out.below hB)
        have M5 := Lib.hid (show Mod (RTurn w2 B) w2 wc from Mod.of_below hB)
        have V5 := Lib.hid (show Nums wc .i32 (.slice vq xs.length vc) xs ∧ LiesIn (OfType wc 21) (.slice vq xs.length vc) xs.length from ⟨V.out.1.below hB, V.out.2.mono fun j ⟨cs, fr, e⟩ => ⟨cs, fr, (hB.block j (lt_block e)).trans e⟩⟩)
        have x5 := cellsB A5.out.cell 1
        have cA := Lib.hid (A5.out.add (by omega) HK.out)
        have NB := Lib.hid hNFb
        clear hT hB hNF hNFb
        go_wp2_with fail
        (with_reducible refine cA.out.mono ?_)
        rintro e w6 ⟨rfl, ⟨vn6, hA6⟩, hm6⟩
        have A6 := Lib.hid hA6
        have M6 := Lib.hid (RTurn.trans M5.out hm6)
        have T6 := Lib.hid (T5.out.rturn hm6)
        have V6 := Lib.hid (V5.out.1.rturn V5.out.2 hm6)
        have x6 := cellsB hA6.cell 2
        have xl6 := lt_block hA6.cell
        obtain ⟨q, c1, w7, hrun7, hown7, hb7⟩ := hA6.copy (by show s.L.length ≤ 1000; omega)
        have O7 := Lib.hid (And.intro hown7 hb7)
        have hxt : xs.take (Int.toNat 100) = xs := List.take_of_length_le (by simp; omega)
        have cC := cutVec xs (.slice vq xs.length vc) 100 w7 (V6.out.1.below hb7) (by decide) (.inr (by decide))
        rw [hxt] at cC
        have cC := Lib.hid cC
        clear hA6 hm6 x5 hown7 hb7 hxt
        go_wp2_with (with_reducible refine wpList_append_eq hrun7 rfl _ _ rfl rfl rfl ?_)
        (with_reducible refine cC.out.mono ?_)
        rintro e w8 ⟨u8, rfl, ho8, hb8⟩
        obtain ⟨uq, un, uc, rfl⟩ := own_form ho8
        have A8 := Lib.hid ((A6.out.below O7.out.2).below hb8)
        obtain ⟨g9, cp9, w9, hrun9, hA9, hx9, hm9⟩ := A8.out.lay (by show s.L.length ≤ 1000; omega) (own_mono (own_below O7.out.1 hb8) A6.out.big) k (own_mono ho8 (Nat.le_trans A6.out.big O7.out.2.size)) (fun r hr => by
          cases hb : r.vec.ownBlock with
          | none => exact .inl rfl
          | some b =>
            refine .inr fun e => ?_
            have h1 := (A6.out.held.lt hr b hb).2
            have h2 := (ho8.lt b e.symm).1
            have h3 := O7.out.2.size
            omega) rfl
        have x8 := cellsB A8.out.cell 2
        have xl8 := lt_block A8.out.cell
        have x9 := cellsB (hx9.trans A8.out.cell) 2
        have z9 : w9.frozen? ⟨x, 2, none⟩ = false := by simp [World.frozen?, hx9.trans A8.out.cell]
        have A9 := Lib.hid hA9
        have B68 := Lib.hid (O7.out.2.trans (hb8.mono O7.out.2.size))
        have qlow : ∀ j, (Value.slice q rs.length c1).ownBlock = some j → w6.heap.size ≤ j := fun j hj => (O7.out.1.lt j hj).1
        have M9 := Lib.hid (show Mod (RTurn w2 B) w2 (w9.setCell ⟨x, 2, none⟩ (.slice (some ⟨g9, 0, none⟩) (rs.length + 1) cp9)) from
          (M6.out.andBelow B68.out).trans hm9 fun j hj hf => by
            rcases hf with e | rfl
            · have h1 := qlow j e
              have h2 := M6.out.size
              omega
            · exact ⟨H.out.low, .inl ⟨_, _, H.out.cell⟩⟩)
        have T9 := Lib.hid (show HitsT (w9.setCell ⟨x, 2, none⟩ (.slice (some ⟨g9, 0, none⟩) (rs.length + 1) cp9)) (.slice np NF.length nc) NF from
          T6.out.keep fun j hj => by
            obtain ⟨cs, fr, e⟩ := id hj
            have hl6 := lt_block e
            have h8 := B68.out.block j hl6
            refine (hm9.block j (by have := B68.out.size; omega) fun hf => ?_).trans h8
            rcases hf with e2 | rfl
            · have := qlow j e2
              omega
            · exact absurd (hj.ne ⟨_, _, A6.out.cell⟩) (by decide))
        have NV := Lib.hid (show NewR w2 rs (rs ++ [(⟨k, 0, .slice uq un uc⟩ : Hv)]) from by
          intro r hr b hb
          rcases List.mem_append.1 hr with hr | hr
          · exact .inl ⟨r, hr, hb⟩
          · obtain rfl : r = ⟨k, 0, .slice uq un uc⟩ := by simpa using hr
            have h1 := (ho8.lt b hb).1
            have h2 := O7.out.2.size
            have h3 := M6.out.size
            exact .inr (by omega))
        obtain ⟨NR, hNR⟩ : ∃ l, l = NF.take 4 := ⟨_, rfl⟩
        have hN4 : NR.length ≤ 4 := by rw [hNR]; exact List.length_take_le _ _
        have hTR := T9.out
        obtain ⟨p7, c7, hp7, hcap, hbig, -, -⟩ := id hTR
        obtain ⟨rfl, -, rfl⟩ := Value.slice.inj hp7
        have TR := Lib.hid (show HitsT (w9.setCell ⟨x, 2, none⟩ (.slice (some ⟨g9, 0, none⟩) (rs.length + 1) cp9)) (.slice np NR.length nc) NR from by
          have h1 : NR.length ≤ NF.length := by rw [hNR]; simp; omega
          have h2 := hTR.front h1
          rw [show NF.take NR.length = NR from by rw [hNR]; simp []] at h2
          exact h2)
        have hmn : ∀ w : World, (Builtin.min_ #[3, 3] 3 #[.int .i64 NF.length, .int .i64 4]).run Tryz.prog w = .ok (.int .i64 NR.length) w := by
          have hmm : (NR.length : Int) = min (NF.length : Int) 4 := by rw [hNR, List.length_take]; omega
          intro w
          simp [Builtin.min_, Builtin.min2, hmm]
          split <;> omega
        have hm0 : (0 : Int) ≤ NR.length ∧ (NR.length : Int) ≤ nc := by
          have : NR.length ≤ NF.length := by rw [hNR]; simp; omega
          omega
        have htn : ((NR.length : Nat) : Int).toNat = NR.length := Int.toNat_natCast _
        have NRB := Lib.hid (show ∀ y ∈ NR, y.vec = [] from by rw [hNR]; exact fun y hy => NB.out.1 y (List.mem_of_mem_take hy))
        have NM := Lib.hid (show nearM s xs = NR from by rw [hNR]; exact hNM)
        obtain ⟨N1, hN1⟩ : ∃ n, n = putZ s.N k := ⟨_, rfl⟩
        obtain ⟨L1, hL1⟩ : ∃ n, n = s.L ++ [⟨k, 0, xs⟩] := ⟨_, rfl⟩
        have MID := Lib.hid (fun j => OK.out.mid HR.out HK.out (nr := NR) hN4 j)
        have LEN := Lib.hid (fun j => (link_keeps (putZ s.N k) k NR j (OK.out.rel.add HK.out)).2)
        have NW := Lib.hid (show newM s k xs = ⟨N1, pruneN L1 N1 NR NR.length (linkN N1 k NR NR.length s.E), L1⟩ from by unfold newM; rw [NM.out, hN1, hL1])
        simp only at A9
        rw [← hN1, ← hL1] at A9 MID
        rw [← hN1] at LEN
        have L1L := Lib.hid (show L1.length ≤ 901 from by rw [hL1]; simp; omega)
        have hN1l : N1.length ≤ 1000 := by rw [hN1, putZ_length]; omega
        have SE := Lib.hid (show s.E.length ≤ 3600 by omega)
        clear ho8 hb8 hA9 hx9 hm9 hrun7 x6 xl6 qlow hTR hp7 hcap hbig hNM hNR hN1 hL1
        go_wp2_with (with_reducible refine wpList_append_eq hrun9 rfl _ _ rfl rfl rfl ?_)
        obtain ⟨W9, hW9⟩ : ∃ W9, W9 = w9.setCell ⟨x, 2, none⟩ (.slice (some ⟨g9, 0, none⟩) (rs.length + 1) cp9) := ⟨_, rfl⟩
        rw [← hW9] at A9 M9 TR ⊢
        obtain ⟨lv9, hlv9⟩ : ∃ v, v = Value.slice (some ⟨g9, 0, none⟩) (rs.length + 1) cp9 := ⟨_, rfl⟩
        obtain ⟨rs9, hrs9⟩ : ∃ v, v = rs ++ [(⟨k, 0, .slice uq un uc⟩ : Hv)] := ⟨_, rfl⟩
        rw [← hlv9, ← hrs9] at A9
        rw [← hrs9] at NV
        clear hW9 hlv9 hrs9 hrun9 x8 xl8 x9 z9
        go_loopg [79] NR.length (fun q' i wr => ∃ (j : Nat) (ve' : Value), q' = NR.length - j ∧ j ≤ NR.length ∧ i = .int .i64 j ∧ RzAt B wr x c dim vn6 ve' lv9 rs9 ⟨N1, linkN N1 k NR j s.E, L1⟩ ∧ HitsT wr (.slice np NR.length nc) NR ∧ Mod (RTurn w2 B) w2 wr)
        case atStart => exact ⟨0, _, rfl, by omega, rfl, A9.out, TR.out, M9.out⟩
        case round =>
          obtain ⟨j, ve', rfl, hj, rfl, hA, hT, hM⟩ := hrel
          by_cases hlt : j < NR.length
          · --<<
            obtain ⟨rs3, -, -, hel⟩ := HitsF.rows hT
            obtain ⟨bb, ob, up, uc2, -, hnp, -, -, e0, e1, e2, -, -⟩ := hel j hlt
            subst hnp
            have hst := link_step N1 k NR j hlt s.E
            obtain ⟨y, hy⟩ : ∃ y, y = NR[j] := ⟨_, rfl⟩
            rw [← hy] at e0 e1 e2 hst
            obtain ⟨nv, hnv⟩ : ∃ v, v = y.vec.length := ⟨_, rfl⟩
            rw [← hnv] at e2
            have hlen := LEN.out j
            obtain ⟨Ej, hEj⟩ : ∃ e, e = linkN N1 k NR j s.E := ⟨_, rfl⟩
            rw [← hEj] at hst hA hlen
            have ST := Lib.hid hst
            obtain ⟨yi, hyi⟩ : ∃ z, z = y.id := ⟨_, rfl⟩
            rw [← hyi] at e0 ST
            obtain ⟨W2, hW2⟩ : ∃ W2, W2 = (wr.alloc (.cells #[.int .u64 yi, .int .u64 y.dist, .slice up nv uc2] 38)).drew := ⟨_, rfl⟩
            have hb2 : Below wr.heap.size wr W2 := by rw [hW2]; exact ((Below.refl _ _).alloc (Nat.le_refl _) _).drew
            have y2 : W2.heap[wr.heap.size]? = some (.cells #[.int .u64 yi, .int .u64 y.dist, .slice up nv uc2] 38 (0, 0)) := by rw [hW2]; exact heap_alloc_new _ _
            have A2 := Lib.hid (hA.below hb2)
            have T2 := Lib.hid (HitsT.below hT hb2)
            have M2 := Lib.hid (hM.andBelow hb2)
            obtain ⟨g, hgq⟩ : ∃ g, g = wr.heap.size := ⟨_, rfl⟩
            rw [← hgq] at y2
            have Y2 := Lib.hid y2
            have I2 := Lib.hid (And.intro (cellsB A2.out.cell 1) (cellsB y2 0))
            have HW := Lib.hid hW2
            have hEl : Ej.length ≤ 900000 := by have := SE.out; omega
            clear hel hy hnv hEj hst hyi hW2 hb2 y2 hA hT hM hlen
            by_cases hj0 : j = 0
            · subst hj0
              rw [if_pos rfl] at ST
              simp only [Nat.zero_mul, Nat.add_zero] at e0 e1 e2
              have cB := Lib.hid (A2.out.bind hEl k yi)
              simp only at cB
              go_upto_region 17 with fail
              rw [← hgq]
              clear hgq
              refine region_go (fun w' => w'.cell? ⟨x, 1, none⟩ = some (.pointer (some ⟨c, 0, none⟩)) ∧ w'.cell? ⟨g, 0, none⟩ = some (.int .u64 yi)) (by kernel_rfl) ?hS0 (fun hH => ?_)
              case hS0 =>
                rw [← HW.out]; exact I2.out
              rw [← HW.out] at hH ⊢
              refine kY 0 hH ?_
              repeat simp only [Act.put, uA1, uB1, uC1]
              refine kY 1 hH ?_
              repeat simp only [Act.put, uA1, uB1, uC1]
              refine kY 2 hH ?_
              repeat simp only [Act.put, uA1, uB1, uC1]
              refine kY 3 hH ?_
              repeat simp only [Act.put, uA1, uB1, uC1]
              refine kY 4 hH ?_
              repeat simp only [Act.put, uA1, uB1, uC1]
              refine kY 5 hH ?_
              repeat simp only [Act.put, uA1, uB1, uC1]
              refine kY 6 hH ?_
              repeat simp only [Act.put, uA1, uB1, uC1]
              refine spk 7 rfl (by decide +kernel) (by rfl) (fun K' hK => ?_)
              go_simp
              with_reducible refine cB.out.mono ?_
              rintro e w3 ⟨rfl, ⟨ve3, hA3⟩, hm3⟩
              try dsimp only
              refine hK.out _ _ ?hS (fun hH' => ?_)
              case hS =>
                exact ⟨cellsB hA3.cell 1, cellsB (RTurn.box hm3 Y2.out (by decide)) 0⟩
              clear hK K' hH; have hH := hH'; clear hH'; repeat simp only [Act.put, uA1, uB1, uC1]
              refine wpAnyH_done (by decide +kernel) ?_ _
              have A3 := Lib.hid hA3
              have M3 := Lib.hid (RTurn.trans M2.out hm3)
              have T3 := Lib.hid (T2.out.rturn hm3)
              clear hH hA3 hm3
              go_wp2_with fail
              go_roundg (NR.length - 1)
              case measure => omega
              case rel => exact ⟨1, ve3, rfl, by omega, by go_num, by rw [ST.out]; exact A3.out, T3.out, M3.out⟩
            · have hj0' : ¬ (j : Int) = 0 := by omega
              rw [if_neg hj0] at ST
              have cB := Lib.hid (A2.out.link hEl k yi)
              simp only at cB
              go_upto_region 18 with fail
              rw [← hgq]
              clear hgq
              refine region_go (fun w' => w'.cell? ⟨x, 1, none⟩ = some (.pointer (some ⟨c, 0, none⟩)) ∧ w'.cell? ⟨g, 0, none⟩ = some (.int .u64 yi)) (by kernel_rfl) ?hS0 (fun hH => ?_)
              case hS0 =>
                rw [← HW.out]; exact I2.out
              rw [← HW.out] at hH ⊢
              refine kY 0 hH ?_
              repeat simp only [Act.put, uA1, uB1, uC1]
              refine kY 1 hH ?_
              repeat simp only [Act.put, uA1, uB1, uC1]
              refine kY 2 hH ?_
              repeat simp only [Act.put, uA1, uB1, uC1]
              refine kY 3 hH ?_
              repeat simp only [Act.put, uA1, uB1, uC1]
              refine kY 4 hH ?_
              repeat simp only [Act.put, uA1, uB1, uC1]
              refine kY 5 hH ?_
              repeat simp only [Act.put, uA1, uB1, uC1]
              refine kY 6 hH ?_
              repeat simp only [Act.put, uA1, uB1, uC1]
              refine spk 7 rfl (by decide +kernel) (by rfl) (fun K' hK => ?_)
              go_simp
              with_reducible refine cB.out.mono ?_
              rintro e w3 ⟨rfl, ⟨ve3, hA3⟩, hm3⟩
              try dsimp only
              refine hK.out _ _ ?hS (fun hH' => ?_)
              case hS =>
                exact ⟨cellsB hA3.cell 1, cellsB (RTurn.box hm3 Y2.out (by decide)) 0⟩
              clear hK K' hH; have hH := hH'; clear hH'; repeat simp only [Act.put, uA1, uB1, uC1]
              refine wpAnyH_done (by decide +kernel) ?_ _
              have A3 := Lib.hid hA3
              have M3 := Lib.hid (RTurn.trans M2.out hm3)
              have T3 := Lib.hid (T2.out.rturn hm3)
              clear hH hA3 hm3
              go_wp2_with fail
              go_roundg (NR.length - (j + 1))
              case measure => omega
              case rel => exact ⟨j + 1, ve3, rfl, by omega, by go_num, by rw [ST.out]; exact A3.out, T3.out, M3.out⟩
          · obtain rfl : j = NR.length := by omega
            obtain ⟨E1, hE1⟩ : ∃ e, e = linkN N1 k NR NR.length s.E := ⟨_, rfl⟩
            rw [← hE1] at hA MID NW
            have A0 := Lib.hid hA
            have T0 := Lib.hid hT
            have M0 := Lib.hid hM
            clear hA hT hM hE1
            go_wp2_with fail
            go_loopg [105] NR.length (fun q' i wr => ∃ (j : Nat) (ve' : Value), q' = NR.length - j ∧ j ≤ NR.length ∧ i = .int .i64 j ∧ RzAt B wr x c dim vn6 ve' lv9 rs9 ⟨N1, pruneN L1 N1 NR j E1, L1⟩ ∧ HitsT wr (.slice np NR.length nc) NR ∧ Mod (RTurn w2 B) w2 wr)
            case atStart => exact ⟨0, _, rfl, by omega, rfl, A0.out, T0.out, M0.out⟩
            case round =>
              obtain ⟨j, ve9, rfl, hj, rfl, hA, hT, hM⟩ := hrel
              obtain ⟨wo, rfl⟩ : ∃ wo : World, wo = wr := ⟨_, rfl⟩
              by_cases hlt : j < NR.length
              · obtain ⟨rs3, -, -, hel⟩ := HitsF.rows hT
                obtain ⟨bb, ob, up, uc2, -, hnp, -, -, e0, e1, e2, -, -⟩ := hel j hlt
                subst hnp
                have hst := prune_step L1 N1 NR j hlt E1
                obtain ⟨y, hy⟩ : ∃ y, y = NR[j] := ⟨_, rfl⟩
                rw [← hy] at e0 e1 e2 hst
                obtain ⟨nv, hnv⟩ : ∃ v, v = y.vec.length := ⟨_, rfl⟩
                rw [← hnv] at e2
                have hmid := MID.out j
                obtain ⟨Ej, hEj⟩ : ∃ e, e = pruneN L1 N1 NR j E1 := ⟨_, rfl⟩
                rw [← hEj] at hst hA hmid
                have ST := Lib.hid hst
                obtain ⟨yi, hyi⟩ : ∃ z, z = y.id := ⟨_, rfl⟩
                rw [← hyi] at e0 ST
                obtain ⟨W2, hW2⟩ : ∃ W2, W2 = wo.alloc (.cells #[.int .u64 yi, .int .u64 y.dist, .slice up nv uc2] 38) := ⟨_, rfl⟩
                have hb2 : Below wo.heap.size wo W2 := by rw [hW2]; exact (Below.refl _ _).alloc (Nat.le_refl _) _
                have y2 : W2.heap[wo.heap.size]? = some (.cells #[.int .u64 yi, .int .u64 y.dist, .slice up nv uc2] 38 (0, 0)) := by rw [hW2]; exact heap_alloc_new _ _
                have A2 := Lib.hid (hA.below hb2)
                have T2 := Lib.hid (HitsT.below hT hb2)
                have M2 := Lib.hid (hM.andBelow hb2)
                have MI := Lib.hid hmid
                have Y2 := Lib.hid y2
                have HW := Lib.hid hW2
                clear hel hy hnv hEj hst hyi hW2 hb2 hA hT hM hmid y2
                go_wp2_with fail
                rw [← HW.out]
                obtain ⟨g, hgq⟩ : ∃ g, g = wo.heap.size := ⟨_, rfl⟩
                rw [← hgq] at Y2 ⊢
                clear hgq e0 e1 e2
                obtain ⟨PZ, hPZ⟩ : ∃ P, P = pruneZ L1 N1 yi Ej.length Ej := ⟨_, rfl⟩
                rw [← hPZ] at ST
                have PH := Lib.hid hPZ
                have EL := Lib.hid (show Ej.length ≤ 4000 from by have h1 := MI.out.few; have h2 := L1L.out; simp only at h1; omega)
                clear hPZ
                go_loopg [] Ej.length (fun q' wr => ∃ (E' : Eg) (ve' : Value), q' = E'.length ∧ RzAt B wr x c dim vn6 ve' lv9 rs9 ⟨N1, E', L1⟩ ∧ OkM dim ⟨N1, E', L1⟩ ∧ PZ = pruneZ L1 N1 yi E'.length E' ∧ HitsT wr (.slice (some ⟨bb, ob, none⟩) NR.length nc) NR ∧ Mod (RTurn w2 B) w2 wr ∧ wr.heap[g]? = some (.cells #[.int .u64 yi, .int .u64 y.dist, .slice up nv uc2] 38 (0, 0)) ∧ E'.length ≤ Ej.length)
                case atStart => exact ⟨Ej, _, rfl, A2.out, MI.out, PH.out, T2.out, M2.out, Y2.out, Nat.le_refl _⟩
                case round =>
                  obtain ⟨E', ve', rfl, hA, hOK, hPZ, hT, hM, hg, hEl⟩ := hrel
                  obtain ⟨wi, rfl⟩ : ∃ wi : World, wi = wr := ⟨_, rfl⟩
                  obtain ⟨NE, hNE⟩ : ∃ l, l = nearD E' yi true := ⟨_, rfl⟩
                  obtain ⟨W3, hW3⟩ : ∃ W3, W3 = wi.drew := ⟨_, rfl⟩
                  have hb3 : Below wi.heap.size wi W3 := by rw [hW3]; exact (Below.refl _ _).drew
                  have A3 := Lib.hid (hA.below hb3)
                  have T3 := Lib.hid (HitsT.below hT hb3)
                  have M3 := Lib.hid (hM.andBelow hb3)
                  have G3 := Lib.hid ((hb3.block g (lt_block hg)).trans hg)
                  have OKI := Lib.hid hOK
                  have PPI := Lib.hid hPZ
                  have cN := Lib.hid (dNear W3 B c N1 E' vn6 ve' yi true A3.out.doc (by have := EL.out; show E'.length ≤ 400000; omega))
                  rw [← hNE] at cN
                  have I3 := Lib.hid (And.intro (cellsB A3.out.cell 1) (cellsB G3.out 0))
                  have HW3 := Lib.hid hW3
                  have NEH := Lib.hid hNE
                  have EEL := Lib.hid hEl
                  clear hNE hW3 hb3 hA hOK hPZ hT hM hg hEl
                  go_upto_region 23 with fail
                  refine region_go (fun w' => w'.cell? ⟨x, 1, none⟩ = some (.pointer (some ⟨c, 0, none⟩)) ∧ w'.cell? ⟨g, 0, none⟩ = some (.int .u64 yi)) (by kernel_rfl) ?hS0 (fun hH => ?_)
                  case hS0 =>
                    rw [← HW3.out]; exact I3.out
                  rw [← HW3.out] at hH ⊢
                  refine kY 0 hH ?_
                  repeat simp only [Act.put, uA1, uB1, uC1]
                  refine kY 1 hH ?_
                  repeat simp only [Act.put, uA1, uB1, uC1]
                  refine kY 2 hH ?_
                  repeat simp only [Act.put, uA1, uB1, uC1]
                  refine kY 3 hH ?_
                  repeat simp only [Act.put, uA1, uB1, uC1]
                  refine kY 4 hH ?_
                  repeat simp only [Act.put, uA1, uB1, uC1]
                  refine kY 5 hH ?_
                  repeat simp only [Act.put, uA1, uB1, uC1]
                  refine spk 6 rfl (by decide +kernel) (by rfl) (fun K' hK => ?_)
                  go_simp
                  with_reducible refine cN.out.mono ?_
                  rintro e w4 ⟨v4, rfl, ho4, hb4⟩
                  obtain ⟨sp, sc, rfl, -, -, -, -⟩ := (Nums.of_own ho4).slice
                  try dsimp only
                  refine hK.out _ _ ?hS (fun hH' => ?_)
                  case hS =>
                    exact ⟨below_cells hb4 hH.1, below_cells hb4 hH.2⟩
                  clear hK K' hH; have hH := hH'; clear hH'; repeat simp only [Act.put, uA1, uB1, uC1]
                  refine kY 7 hH ?_
                  repeat simp only [Act.put, uA1, uB1, uC1]
                  refine wpAnyH_done (by decide +kernel) ?_ _
                  have N4 := Lib.hid (Nums.of_own ho4)
                  have B4 := Lib.hid hb4
                  clear hH ho4 hb4
                  have A4 := Lib.hid (A3.out.below B4.out)
                  have T4 := Lib.hid (T3.out.below B4.out)
                  have M4 := Lib.hid (M3.out.andBelow B4.out)
                  have G4 := Lib.hid ((B4.out.block g (lt_block G3.out)).trans G3.out)
                  by_cases hl : 4 < NE.length
                  · obtain ⟨wx, hwx, hwm, -⟩ := soft_some (L := L1) (E := E') (k := yi) (by rw [← NEH.out]; exact hl)
                    have GO := Lib.hid (prune_go (L := L1) OKI.out.rel (by rw [← NEH.out]; exact hl) hwx)
                    have CUT := Lib.hid (cut_soft OKI.out.rel hwm)
                    have SID := Lib.hid (soft_ids OKI.out.rel L1 yi)
                    obtain ⟨SL, hSL⟩ : ∃ l, l = softL L1 E' yi := ⟨_, rfl⟩
                    rw [← hSL] at SID hwx
                    have hSLl : SL.length = NE.length := by rw [hSL, NEH.out]; unfold softL; simp
                    have SLB := Lib.hid (show ∀ y ∈ SL, y.vec = [] from by rw [hSL]; intro y hy; unfold softL at hy; obtain ⟨u, -, rfl⟩ := List.mem_map.1 hy; rfl)
                    have SLJ := Lib.hid (show ∀ j (h1 : j < SL.length) (h2 : j < NE.length), SL[j] = hitK NE[j] (distR (vecOf L1 yi) (vecOf L1 NE[j])).1 from by have hNE := NEH.out; subst hSL hNE; intro j h1 h2; simp [softL])
                    obtain ⟨ms, hms, hmp⟩ := sorted_of SL SID.out
                    have hml : ms.length = NE.length := hmp.length_eq.trans hSLl
                    have WL := Lib.hid ((worst_last hms hmp SID.out).symm.trans hwx)
                    have MS := Lib.hid (And.intro hms hmp)
                    have hl' : ¬ (NE.length : Int) ≤ 4 := by omega
                    have hn63 : NE.length ≤ 9223372036854775807 := by
                      obtain ⟨q, c, hq, h1, h2, -, -⟩ := N4.out.slice
                      omega
                    have hnE : NE.length ≤ 5000 := by
                      have h1 := nearD_len E' yi true
                      rw [← NEH.out] at h1
                      have h2 := EL.out
                      have h3 := EEL.out
                      omega
                    have HSLl := Lib.hid hSLl
                    have HML := Lib.hid hml
                    clear hwx hwm hSL hSLl hms hmp hml
                    go_wp2_with fail
                    go_loopg [13, 121] NE.length (fun q' lv0 i wt => ∃ (t : Nat) (lvv : Value), q' = NE.length - t ∧ t ≤ NE.length ∧ lvv = lv0 ∧ i = .int .i64 t ∧ wt.ownsRow w4.heap.size 38 3 lvv t (flat3 ((SL.take t).map bareV)) ∧ Below w4.heap.size w4 wt)
                    case atStart => exact ⟨0, _, rfl, by omega, rfl, rfl, by simpa [flat3] using World.ownsRow_nil _ _ _ _, Below.refl _ _⟩
                    case round =>
                      obtain ⟨t, lvv, rfl, ht, rfl, rfl, hown, hbt⟩ := hrel
                      obtain ⟨wt, rfl⟩ : ∃ wt : World, wt = wr := ⟨_, rfl⟩
                      by_cases hlt3 : t < NE.length
                      · obtain ⟨b5, o5, rfl, e5⟩ := (N4.out.below hbt).elem hlt3
                        have hsj := SLJ.out t (by rw [HSLl.out]; exact hlt3) hlt3
                        have hst2 : (SL.take (t + 1)).map bareV = (SL.take t).map bareV ++ [bareV (SL[t]'(by rw [HSLl.out]; exact hlt3))] := by rw [List.take_succ_eq_append_getElem (by rw [HSLl.out]; exact hlt3), List.map_append]; rfl
                        rw [hsj] at hst2
                        obtain ⟨z, hz⟩ : ∃ z, z = NE[t] := ⟨_, rfl⟩
                        rw [← hz] at e5 hst2
                        obtain ⟨dd, hdd⟩ : ∃ d, d = distR (vecOf L1 yi) (vecOf L1 z) := ⟨_, rfl⟩
                        rw [← hdd] at hst2
                        have ST2 := Lib.hid hst2
                        have OWT := Lib.hid (And.intro hown hbt)
                        have AT := Lib.hid (A4.out.below hbt)
                        have g0 := cellsB ((hbt.block g (lt_block G4.out)).trans G4.out) 0
                        have cV1 := Lib.hid (rVec AT.out yi)
                        have HDD := Lib.hid hdd
                        clear hsj hst2 hz hown hbt hdd
                        go_wp2_with fail
                        (with_reducible refine cV1.out.mono ?_)
                        rintro e w5 ⟨u5, rfl, hu5, -, hb5⟩
                        obtain ⟨u5p, u5c, rfl, -, -, -, -⟩ := hu5.slice
                        have U5 := Lib.hid hu5
                        have B5 := Lib.hid hb5
                        have cV2 := Lib.hid (rVec (AT.out.below hb5) z)
                        clear hu5 hb5
                        go_wp2_with fail
                        (with_reducible refine cV2.out.mono ?_)
                        rintro e w6' ⟨u6, rfl, hu6, -, hb6⟩
                        obtain ⟨u6p, u6c, rfl, -, -, -, -⟩ := hu6.slice
                        have cD := Lib.hid (refDist _ _ _ _ w6' (U5.out.below hb6) hu6)
                        rw [← HDD.out] at cD
                        have B6 := Lib.hid (B5.out.trans (hb6.mono B5.out.size))
                        clear hu6 hb6
                        go_wp2_with fail
                        (with_reducible refine cD.out.mono ?_)
                        rintro e w7' ⟨rfl, hb7⟩
                        have B7 := Lib.hid (B6.out.trans (hb7.mono B6.out.size))
                        obtain ⟨d, hd⟩ : ∃ d, d = dd.1 := ⟨_, rfl⟩
                        obtain ⟨d2, hd2⟩ : ∃ d, d = dd.2 := ⟨_, rfl⟩
                        obtain ⟨g8, cp8, w8', hrun8, hown8, hg8, -, -⟩ := run_push rowHit (own_below OWT.out.1 B7.out) (by have := OWT.out.2.size; have := B7.out.size; omega) #[.int .u64 z, .int .u64 d, .slice none 0 0] rfl (by simp [Value.oneCell']) (by simp [maxLen]; omega) (by omega)
                        have OW8 := Lib.hid (show w8'.ownsRow w4.heap.size 38 3 (.slice (some ⟨g8, 0, none⟩) (t + 1) cp8) (t + 1) (flat3 ((SL.take (t + 1)).map bareV)) ∧ Below w4.heap.size w4 w8' from by
                          refine ⟨?_, ?_⟩
                          · rw [ST2.out, flat3_append]
                            have : flat3 [bareV (hitK z dd.1)] = [.int .u64 z, .int .u64 d, .slice none 0 0] := by rw [hd]; rfl
                            rw [this]
                            exact hown8
                          · have b1 := OWT.out.2.trans (B7.out.mono OWT.out.2.size)
                            have b2 := b1.alloc (by have := b1.size; omega : w4.heap.size ≤ w7'.heap.size) (.cells #[.int .u64 z, .int .u64 d, .slice none 0 0] 38)
                            exact b2.grown hg8 (by have := b1.size; simp; omega) fun b hb => (OWT.out.1.lt b hb).1)
                        clear hb7 hown8 hg8
                        rw [← hd, ← hd2]
                        clear hd hd2
                        go_wp2_with (with_reducible refine wpList_append_eq hrun8 rfl _ _ rfl rfl rfl ?_)
                        go_roundg (NE.length - (t + 1))
                        case measure => omega
                        case rel => exact ⟨t + 1, _, rfl, by omega, rfl, by go_num, OW8.out.1, OW8.out.2⟩
                      · obtain rfl : t = NE.length := by omega
                        have hSt : SL.take NE.length = SL := by rw [← HSLl.out]; exact List.take_length
                        rw [hSt] at hown
                        have hH : HitsF wt (fun b => lvv.ownBlock = some b) lvv SL := HitsF.of_own hown (fun b hb => hb) (bare_rows SLB.out)
                        have cS2 := Lib.hid (sortT SL ms MS.out.1 SID.out MS.out.2 (by rw [HSLl.out]; omega) lvv _ wt hH)
                        have BT := Lib.hid hbt
                        clear hown hbt hH hSt
                        go_wp2_with fail
                        (with_reducible refine cS2.out.mono ?_)
                        rintro e w5 ⟨v5, rs5, rfl, ho5, hr5, hb5⟩
                        have hml5 : 4 < ms.length := by have := HML.out; omega
                        obtain ⟨b5, c5, hv5, -, -⟩ := ho5.form (by omega)
                        subst hv5
                        have hrl5 : rs5.length = ms.length := hr5.len
                        have e0 := own_cell ho5 rfl (flat3_get rs5 (ms.length - 1) (by omega)).1
                        rw [(hr5.each (ms.length - 1) (by omega) (by omega)).1] at e0
                        have hty5 := own_type ho5 (b := b5) rfl
                        have hwl : ms[ms.length - 1] = wx := by
                          have := WL.out
                          rw [List.getLast?_eq_getElem?, List.getElem?_eq_getElem (by omega)] at this
                          exact Option.some.inj this
                        rw [hwl] at e0
                        obtain ⟨n5, hn5⟩ : ∃ n, n = ms.length - 1 := ⟨_, rfl⟩
                        rw [← hn5] at e0
                        obtain ⟨xi, hxi⟩ : ∃ i, i = wx.id := ⟨_, rfl⟩
                        rw [← hxi] at e0 GO CUT
                        obtain ⟨W8, hW8⟩ : ∃ W8, W8 = w5.drew := ⟨_, rfl⟩
                        have hb8 : Below w5.heap.size w5 W8 := by rw [hW8]; exact (Below.refl _ _).drew
                        have B8 := Lib.hid (BT.out.trans ((hb5.trans (hb8.mono hb5.size)).mono BT.out.size))
                        have A8 := Lib.hid (A4.out.below B8.out)
                        have T8 := Lib.hid (T4.out.below B8.out)
                        have M8 := Lib.hid (M4.out.andBelow B8.out)
                        have G8 := Lib.hid ((B8.out.block g (lt_block G4.out)).trans G4.out)
                        have I8 := Lib.hid (And.intro (cellsB A8.out.cell 1) (And.intro (cellsB G8.out 0) (below_cells hb8 e0)))
                        have HW8 := Lib.hid hW8
                        have cC2 := Lib.hid (A8.out.cut (by have := EL.out; have := EEL.out; show E'.length ≤ 900000; omega) yi xi)
                        simp only at cC2
                        obtain ⟨EC, hEC⟩ : ∃ e, e = (cutD N1 E' yi xi).2 := ⟨_, rfl⟩
                        obtain ⟨cc, hcc⟩ : ∃ c, c = (cutD N1 E' yi xi).1 := ⟨_, rfl⟩
                        rw [← hEC, ← hcc] at cC2
                        rw [← hEC] at CUT GO
                        obtain ⟨nms, hnms⟩ : ∃ n, n = ms.length := ⟨_, rfl⟩
                        rw [← hnms]
                        have hw1 : IntKind.i64.wrap ((nms : Int) - 1) = (n5 : Int) := by rw [IntWalk.i64_in _ (by have := HML.out; omega)]; omega
                        have hw0 : (0 : Int) ≤ (n5 : Int) ∧ (n5 : Int) < (nms : Int) := by omega
                        have hw2 : ((n5 : Nat) : Int).toNat = n5 := Int.toNat_natCast _
                        have TY8 := Lib.hid (show OfType W8 38 b5 from by
                          obtain ⟨cs, fr, e⟩ := hty5
                          exact ⟨cs, fr, (hb8.block _ (lt_block e)).trans e⟩)
                        clear hwl hn5 hxi hW8 hb8 hEC hcc ho5 hr5 hb5 e0 hnms hml5 hrl5 hty5
                        go_upto_region 33 with fail
                        refine region_go (fun w' => w'.cell? ⟨x, 1, none⟩ = some (.pointer (some ⟨c, 0, none⟩)) ∧ w'.cell? ⟨g, 0, none⟩ = some (.int .u64 yi) ∧ w'.cell? ⟨b5, n5 * 3, none⟩ = some (.int .u64 xi)) (by kernel_rfl) ?hS0 (fun hH => ?_)
                        case hS0 =>
                          rw [← HW8.out]; exact I8.out
                        rw [← HW8.out] at hH ⊢
                        refine kY 0 hH ?_
                        repeat simp only [Act.put, uA1, uB1, uC1]
                        refine kY 1 hH ?_
                        repeat simp only [Act.put, uA1, uB1, uC1]
                        refine kY 2 hH ?_
                        repeat simp only [Act.put, uA1, uB1, uC1]
                        refine kY 3 hH ?_
                        repeat simp only [Act.put, uA1, uB1, uC1]
                        refine kY 4 hH ?_
                        repeat simp only [Act.put, uA1, uB1, uC1]
                        refine kY 5 hH ?_
                        repeat simp only [Act.put, uA1, uB1, uC1]
                        refine kY 6 hH ?_
                        repeat simp only [Act.put, uA1, uB1, uC1]
                        refine kY 7 hH ?_
                        repeat simp only [Act.put, uA1, uB1, uC1]
                        refine kY 8 hH ?_
                        repeat simp only [Act.put, uA1, uB1, uC1]
                        refine kY 9 hH ?_
                        repeat simp only [Act.put, uA1, uB1, uC1]
                        refine kY 10 hH ?_
                        repeat simp only [Act.put, uA1, uB1, uC1]
                        refine kY 11 hH ?_
                        repeat simp only [Act.put, uA1, uB1, uC1]
                        refine kY 12 hH ?_
                        repeat simp only [Act.put, uA1, uB1, uC1]
                        refine spk 13 rfl (by decide +kernel) (by rfl) (fun K' hK => ?_)
                        go_simp
                        with_reducible refine cC2.out.mono ?_
                        rintro e w9' ⟨rfl, ⟨ve9', hA9'⟩, hm9'⟩
                        try dsimp only
                        refine hK.out _ _ ?hS (fun hH' => ?_)
                        case hS =>
                          exact ⟨cellsB hA9'.cell 1, cellsB (RTurn.box hm9' G8.out (by decide)) 0, (World.cell?_of_block (TY8.out.rturn hm9' (by decide)).1).trans I8.out.2.2⟩
                        clear hK K' hH; have hH := hH'; clear hH'; repeat simp only [Act.put, uA1, uB1, uC1]
                        refine wpAnyH_done (by decide +kernel) ?_ _
                        have A9' := Lib.hid hA9'
                        have M9' := Lib.hid (RTurn.trans M8.out hm9')
                        have T9' := Lib.hid (T8.out.rturn hm9')
                        have G9' := Lib.hid (RTurn.box hm9' G8.out (by decide))
                        clear hH hA9' hm9'
                        go_wp2_with fail
                        go_roundg EC.length
                        case measure => have := CUT.out.1; omega
                        case rel => exact ⟨EC, ve9', rfl, A9'.out, ⟨CUT.out.2, OKI.out.same, OKI.out.once, OKI.out.vecs, by have h1 := OKI.out.few; have h2 := CUT.out.1; simp only at h1 ⊢; omega⟩, PPI.out.trans GO.out, T9'.out, M9'.out, G9'.out, by have := CUT.out.1; have := EEL.out; omega⟩
                  · have hl' : (NE.length : Int) ≤ 4 := by omega
                    have PE := Lib.hid (PPI.out.trans (prune_stop L1 N1 yi E'.length (E := E') (by rw [← NEH.out]; omega)))
                    go_wp2_with fail
                    go_roundg (NR.length - (j + 1))
                    case measure => omega
                    case rel => exact ⟨j + 1, ve', rfl, by omega, by go_num, by rw [ST.out, PE.out]; exact A4.out, T4.out, M4.out⟩
              · obtain rfl : j = NR.length := by omega
                have FA := Lib.hid (show ∃ vn ve lv rs', RzAt B wo x c dim vn ve lv rs' (newM s k xs) ∧ NewR w2 rs rs' from by rw [NW.out]; exact ⟨_, _, _, _, hA, NV.out⟩)
                have FM := Lib.hid hM
                clear hA hT hM
                go_wp2_with fail
                go_ret
                exact ⟨rfl, FA.out, FM.out⟩

end Go.Proofs.YtpjbkaibgajpcaaGreat
