/- best's document: one is added, walked. -/
import Derived.Test.YtpjbkaibgajpcaaGreatJ11
namespace Go.Proofs.YtpjbkaibgajpcaaGreat
open Go.RowKit
set_option maxRecDepth 20000

set_option maxHeartbeats 8000000 in
theorem refAdd (F : Nat → Prop) (c most : Nat) (L : List Hz) (h : Hz) (u : Value) (w : World) (hm1 : 1 ≤ most) (hm2 : L.length ≤ 1000000) (hL : RefL w F c most L) (hF : ∀ k, F k → k < w.heap.size) (gL : GoodL most L) (hu : Nums w .i32 u h.vec) (hx : h.vec.length ≤ 100) :
    Calls Tryz.prog 104 #[.pointer (some ⟨c, 0, none⟩), .agg #[.int .u64 h.id, .int .u64 h.dist, u]] w (RefAdd w F c most (addZ most L h)) := by
  obtain ⟨v, G, r, ho, hp, hFc, hGF⟩ := hL
  obtain ⟨q, ucap, rfl, -, -, -, -⟩ := hu.slice
  obtain ⟨p, cap, rfl, hcap, hbig, -, -⟩ := id ho.hits
  have hcw := lt_block ho.obj
  have hlen := hp.length_eq
  have hid := gL.ids.perm hp
  have H := Lib.hid (And.intro hp (And.intro gL hid))
  have RO := Lib.hid ho
  have hFG := Lib.hid (And.intro hF (And.intro hFc hGF))
  have hb1 := (Below.refl w.heap.size w).alloc (Nat.le_refl _) (Obj.cells #[Value.int IntKind.u64 h.id, Value.int IntKind.u64 h.dist, Value.slice q h.vec.length ucap] 38)
  have hu9 : h.vec.take (100 : Int).toNat = h.vec := List.take_of_length_le (by simpa using hx)
  have CV := Lib.hid (cutVec h.vec _ 100 _ (hu.below hb1) (by decide) (.inr (by decide)))
  rw [hu9] at CV
  have B1 := Lib.hid hb1
  clear ho hp gL hid hF hFc hGF hu hb1 hu9 hcap hbig
  go_enter Tryz.func104, Tryz.ntmps104
  go_wp2_with fail
  refine CV.out.mono ?_
  rintro e w4 ⟨u4, rfl, hu4, hb4⟩
  obtain ⟨q4, m4, k4, rfl⟩ := own_form hu4
  have x0 := below_cells hb4 (a := ⟨w.heap.size, 0, none⟩) (v := .int .u64 h.id) (by go_simp)
  have x1 := below_cells hb4 (a := ⟨w.heap.size, 1, none⟩) (v := .int .u64 h.dist) (by go_simp)
  have x2 := below_cells hb4 (a := ⟨w.heap.size, 2, none⟩) (v := .slice q h.vec.length ucap) (by go_simp)
  have xf : w4.frozen? ⟨w.heap.size, 2, none⟩ = false := below_frozen hb4 (by simp) (by go_simp)
  have hB4 := hb4.size
  have B4 := Lib.hid (B1.out.trans (hb4.mono B1.out.size))
  have M0 := Lib.hid (MidR.start (F := F) (h := h) RO.out hFG.out.2 B4.out (by simp) hu4)
  obtain ⟨c0, c1, cf⟩ := (RO.out.below B4.out).cells
  have hW2 := World.cell?_setCell_same w4 ⟨w.heap.size, 2, none⟩ (.slice q4 m4 k4) x2
  have hW0 : (w4.setCell ⟨w.heap.size, 2, none⟩ (.slice q4 m4 k4)).cell? ⟨w.heap.size, 0, none⟩ = some (.int .u64 h.id) := by rw [World.cell?_setCell_other _ _ _ _ (by simp)]; exact x0
  have hW1 : (w4.setCell ⟨w.heap.size, 2, none⟩ (.slice q4 m4 k4)).cell? ⟨w.heap.size, 1, none⟩ = some (.int .u64 h.dist) := by rw [World.cell?_setCell_other _ _ _ _ (by simp)]; exact x1
  have XX := Lib.hid (And.intro hW0 (And.intro hW1 hW2))
  clear hu4 hb4 hW0 hW1 hW2 x0 x1
  go_wp2_with fail
  obtain ⟨W0, hW0⟩ : ∃ W0, W0 = w4.setCell ⟨w.heap.size, 2, none⟩ (.slice q4 m4 k4) := ⟨_, rfl⟩
  rw [← hW0] at M0 XX ⊢
  clear hW0 B4 hB4 c0 c1 cf x2 xf CV
  go_loopg [19] r.length (fun q' i wr => ∃ k, q' = r.length - k ∧ k ≤ r.length ∧ i = .int .i64 k ∧ (∀ j (hj : j < r.length), j < k → r[j].id ≠ h.id) ∧ Below W0.heap.size W0 wr)
  case atStart => exact ⟨0, rfl, by omega, rfl, fun j _ h => absurd h (by omega), Below.refl _ _⟩
  case round =>
    obtain ⟨k, rfl, hk, rfl, hall, hb⟩ := hrel
    have x0 := below_cells hb XX.out.1
    have x1 := below_cells hb XX.out.2.1
    have x2 := below_cells hb XX.out.2.2
    have M := Lib.hid (M0.out.below hb)
    obtain ⟨c0, c1, cf⟩ := M.out.ro.cells
    have A := Lib.hid (And.intro hall hb)
    have hbw : w.heap.size < wr.heap.size := lt_of_cell x0
    clear hall hb
    by_cases hlt : k < r.length
    · obtain ⟨rs', -, -, hel⟩ := M.out.ro.hits.rows
      obtain ⟨b, off, up, uc, -, rfl, -, -, d0, d1, d2, -, -⟩ := hel k hlt
      have BA := Lib.hid ((Below.refl wr.heap.size wr).alloc (Nat.le_refl _) (Obj.cells #[Value.int IntKind.u64 r[k].id, Value.int IntKind.u64 r[k].dist, Value.slice up r[k].vec.length uc] 38))
      clear hel
      by_cases hi : r[k].id = h.id
      · have hne : (r[k].id != h.id) = false := by simp [hi]
        obtain ⟨k', hk', e'⟩ := List.mem_iff_getElem.1 (H.out.1.mem_iff.2 (List.getElem_mem hlt))
        have PL := addZ_at (n := most) (h := h) hk' H.out.2.1.ids (by rw [e']; exact hi)
        rw [e'] at PL
        by_cases hd : r[k].dist ≤ h.dist
        · have hdb : decide (r[k].dist ≤ h.dist) = true := decide_eq_true hd
          rw [PL, if_neg (by omega)]
          clear PL e' hi hd hk'
          go_wp2_with fail
          go_ret
          exact (M.out.below BA.out).same H.out.1
        · have hdb : decide (r[k].dist ≤ h.dist) = false := decide_eq_false hd
          rw [PL, if_pos (by omega)]
          have PE := Lib.hid (perm_ins (perm_erase H.out.1 hk' hlt e') h)
          clear PL e' hi hd
          go_wp2_with fail
          obtain ⟨W1, hW1⟩ : ∃ W1, W1 = (wr.alloc (Obj.cells #[Value.int IntKind.u64 r[k].id, Value.int IntKind.u64 r[k].dist, Value.slice up r[k].vec.length uc] 38)).drew := ⟨_, rfl⟩
          have b0 : Below wr.heap.size wr W1 := by rw [hW1]; exact BA.out.drew
          have M1 := Lib.hid (M.out.below b0)
          replace x0 := below_cells b0 x0
          replace x1 := below_cells b0 x1
          replace x2 := below_cells b0 x2
          replace c1 := below_cells b0 c1
          have HW := Lib.hid hW1
          have hbd := Below.refl W1.heap.size W1
          have hw1 : w.heap.size ≤ W1.heap.size := M1.out.mod.size
          clear hW1 b0 c0 cf d0 d1 d2
          refine region_goN 12 (fun w' => w'.cell? ⟨c, 1, none⟩ = some (.slice (some ⟨b, off, none⟩) r.length cap) ∧ w'.cell? ⟨w.heap.size, 0, none⟩ = some (.int .u64 h.id) ∧ w'.cell? ⟨w.heap.size, 1, none⟩ = some (.int .u64 h.dist) ∧ w'.cell? ⟨w.heap.size, 2, none⟩ = some (.slice q4 m4 k4)) (by kernel_rfl) ?hS0 (fun hH => ?_)
          case hS0 =>
            rw [← HW.out]; exact ⟨c1, x0, x1, x2⟩
          rw [← HW.out] at hH ⊢
          refine kYN 0 hH ?_
          repeat simp only [Act.put, uA1, uB1, uC1]
          refine kYN 1 hH ?_
          repeat simp only [Act.put, uA1, uB1, uC1]
          refine kYN 2 hH ?_
          repeat simp only [Act.put, uA1, uB1, uC1]
          refine kYN 3 hH ?_
          repeat simp only [Act.put, uA1, uB1, uC1]
          refine kYN 4 hH ?_
          repeat simp only [Act.put, uA1, uB1, uC1]
          refine kYN 5 hH ?_
          repeat simp only [Act.put, uA1, uB1, uC1]
          refine kYN 7 hH ?_
          repeat simp only [Act.put, uA1, uB1, uC1]
          refine spBN 6 8 rfl rfl (by decide) (by decide) ?hr ?hw ?hv (fun K' hK => ?b1_1) (fun K' hK => ?b2_1)
          case hr => decide +kernel
          case hw => rfl
          case hv => rfl
          case b1_1 =>
            go_simp
            refine (without r k hlt (by omega) G _ _ (M1.out.below hbd).ro.hits).mono ?_
            rintro e w6 ⟨v6, rs6, rfl, ho6, hr6, hb6⟩
            obtain ⟨q6, m6, k6, rfl⟩ := own_form ho6
            try replace he9 := (hb6.block _ (lt_block he9)).trans he9
            replace ho6 := own_mono ho6 hbd.size
            replace hbd := hbd.trans (hb6.mono hbd.size)
            have R6 := Lib.hid (hr6.back hbd M1.out.ro.ghi)
            clear hb6 hr6
            try dsimp only
            refine hK.out _ _ ?hS (fun hH' => ?_)
            case hS =>
              exact ⟨below_cells hbd c1, below_cells hbd x0, below_cells hbd x1, below_cells hbd x2⟩
            clear hK K' hH; have hH := hH'; clear hH'; repeat simp only [Act.put, uA1, uB1, uC1]
            refine spkN 8 rfl (by decide) (by decide +kernel) (by rfl) (fun K' hK => ?_)
            go_simp
            have he9 := (fun {W : World} (_ : Below W1.heap.size W1 W) => heap_alloc_new W (.cells #[.int .u64 h.id, .int .u64 h.dist, .slice q4 m4 k4] 38)) hbd
            try replace ho6 := ho6.alloc (.cells #[.int .u64 h.id, .int .u64 h.dist, .slice q4 m4 k4] 38)
            replace hbd := hbd.alloc hbd.size (.cells #[.int .u64 h.id, .int .u64 h.dist, .slice q4 m4 k4] 38)
            try dsimp only
            refine hK.out _ _ ?hS (fun hH' => ?_)
            case hS =>
              exact ⟨below_cells hbd c1, below_cells hbd x0, below_cells hbd x1, below_cells hbd x2⟩
            clear hK K' hH; have hH := hH'; clear hH'; repeat simp only [Act.put, uA1, uB1, uC1]
            refine spkN 9 rfl (by decide) (by decide +kernel) (by rfl) (fun K' hK => ?_)
            have hl6 := R6.out.len
            rw [List.length_eraseIdx_of_lt hlt] at hl6
            obtain ⟨g5, c5, w5, hrun5, hown5, hg5, hat5, hlt5⟩ := run_push_at rowHit ho6 hbd.size he9 rfl (by simp [Value.oneCell']) (by simp [maxLen]; omega) (by omega)
            refine wp_append_eq hrun5 _ _ rfl rfl rfl ?_
            replace hbd := hbd.grown hg5 hbd.size (fun b hb => (ho6.lt b hb).1)
            have E := Lib.hid (M1.out.put hbd hw1 hown5 (R6.out.below hbd) PE.out)
            have y1 := below_cells hbd c1
            have yf := (M1.out.below hbd).ro.cells.2.2
            clear hrun5 hown5 hg5 hat5 hlt5 hl6
            try dsimp only
            refine hK.out _ _ ?hS (fun hH' => ?_)
            case hS =>
              exact ⟨below_cells hbd c1, below_cells hbd x0, below_cells hbd x1, below_cells hbd x2⟩
            clear hK K' hH; have hH := hH'; clear hH'; repeat simp only [Act.put, uA1, uB1, uC1]
            refine spkN 10 rfl (by decide) (by decide +kernel) (by rfl) (fun K' hK => ?_)
            go_simp
            try dsimp only
            refine hK.out _ _ ?hS (fun hH' => ?_)
            case hS =>
              exact ⟨below_cells hbd c1, below_cells hbd x0, below_cells hbd x1, below_cells hbd x2⟩
            clear hK K' hH; have hH := hH'; clear hH'; repeat simp only [Act.put, uA1, uB1, uC1]
            refine kYN 11 hH ?_
            repeat simp only [Act.put, uA1, uB1, uC1]
            refine spkL rfl (by decide +kernel) (by rfl) (fun K' hK => ?_)
            go_simp
            try dsimp only
            refine hK.out _ _ ?_
            clear hK K' hH; repeat simp only [Act.put, uA1, uB1, uC1]
            refine anyBut_done (by decide +kernel) ?_ _
            go_wp2_with fail
            go_ret
            exact E.out
          case b2_1 =>
            go_simp
            have he9 := (fun {W : World} (_ : Below W1.heap.size W1 W) => heap_alloc_new W (.cells #[.int .u64 h.id, .int .u64 h.dist, .slice q4 m4 k4] 38)) hbd
            try replace ho6 := ho6.alloc (.cells #[.int .u64 h.id, .int .u64 h.dist, .slice q4 m4 k4] 38)
            replace hbd := hbd.alloc hbd.size (.cells #[.int .u64 h.id, .int .u64 h.dist, .slice q4 m4 k4] 38)
            try dsimp only
            refine hK.out _ _ ?hS (fun hH' => ?_)
            case hS =>
              exact ⟨below_cells hbd c1, below_cells hbd x0, below_cells hbd x1, below_cells hbd x2⟩
            clear hK K' hH; have hH := hH'; clear hH'; repeat simp only [Act.put, uA1, uB1, uC1]
            refine spkN 6 rfl (by decide) (by decide +kernel) (by rfl) (fun K' hK => ?_)
            go_simp
            refine (without r k hlt (by omega) G _ _ (M1.out.below hbd).ro.hits).mono ?_
            rintro e w6 ⟨v6, rs6, rfl, ho6, hr6, hb6⟩
            obtain ⟨q6, m6, k6, rfl⟩ := own_form ho6
            try replace he9 := (hb6.block _ (lt_block he9)).trans he9
            replace ho6 := own_mono ho6 hbd.size
            replace hbd := hbd.trans (hb6.mono hbd.size)
            have R6 := Lib.hid (hr6.back hbd M1.out.ro.ghi)
            clear hb6 hr6
            try dsimp only
            refine hK.out _ _ ?hS (fun hH' => ?_)
            case hS =>
              exact ⟨below_cells hbd c1, below_cells hbd x0, below_cells hbd x1, below_cells hbd x2⟩
            clear hK K' hH; have hH := hH'; clear hH'; repeat simp only [Act.put, uA1, uB1, uC1]
            refine spkN 9 rfl (by decide) (by decide +kernel) (by rfl) (fun K' hK => ?_)
            have hl6 := R6.out.len
            rw [List.length_eraseIdx_of_lt hlt] at hl6
            obtain ⟨g5, c5, w5, hrun5, hown5, hg5, hat5, hlt5⟩ := run_push_at rowHit ho6 hbd.size he9 rfl (by simp [Value.oneCell']) (by simp [maxLen]; omega) (by omega)
            refine wp_append_eq hrun5 _ _ rfl rfl rfl ?_
            replace hbd := hbd.grown hg5 hbd.size (fun b hb => (ho6.lt b hb).1)
            have E := Lib.hid (M1.out.put hbd hw1 hown5 (R6.out.below hbd) PE.out)
            have y1 := below_cells hbd c1
            have yf := (M1.out.below hbd).ro.cells.2.2
            clear hrun5 hown5 hg5 hat5 hlt5 hl6
            try dsimp only
            refine hK.out _ _ ?hS (fun hH' => ?_)
            case hS =>
              exact ⟨below_cells hbd c1, below_cells hbd x0, below_cells hbd x1, below_cells hbd x2⟩
            clear hK K' hH; have hH := hH'; clear hH'; repeat simp only [Act.put, uA1, uB1, uC1]
            refine spkN 10 rfl (by decide) (by decide +kernel) (by rfl) (fun K' hK => ?_)
            go_simp
            try dsimp only
            refine hK.out _ _ ?hS (fun hH' => ?_)
            case hS =>
              exact ⟨below_cells hbd c1, below_cells hbd x0, below_cells hbd x1, below_cells hbd x2⟩
            clear hK K' hH; have hH := hH'; clear hH'; repeat simp only [Act.put, uA1, uB1, uC1]
            refine kYN 11 hH ?_
            repeat simp only [Act.put, uA1, uB1, uC1]
            refine spkL rfl (by decide +kernel) (by rfl) (fun K' hK => ?_)
            go_simp
            try dsimp only
            refine hK.out _ _ ?_
            clear hK K' hH; repeat simp only [Act.put, uA1, uB1, uC1]
            refine anyBut_done (by decide +kernel) ?_ _
            go_wp2_with fail
            go_ret
            exact E.out
      · have hne : (r[k].id != h.id) = true := by simp [hi]
        have N := Lib.hid hi
        clear hi
        go_wp2_with fail
        go_roundg (r.length - (k + 1))
        case measure => omega
        case rel => exact ⟨k + 1, rfl, by omega, by go_num, fun j hj hjk => by
          by_cases e : j = k
          · subst e; exact N.out
          · exact A.out.1 j hj (by omega), A.out.2.trans (BA.out.mono A.out.2.size)⟩
    · obtain rfl : r.length = k := by omega
      have hall : ∀ x ∈ L, x.id ≠ h.id := fun x hx => by
        obtain ⟨j, hj, rfl⟩ := List.mem_iff_getElem.1 (H.out.1.mem_iff.1 hx)
        exact A.out.1 j hj hj
      have PL := addZ_new (n := most) hall
      have hle := H.out.2.1.len
      by_cases hfull : L.length = most
      · rw [if_pos hfull] at PL
        have hdf : decide (most ≤ r.length) = true := decide_eq_true (by omega)
        have FU := Lib.hid hfull
        clear hfull hall
        have PLH := Lib.hid PL
        clear PL
        go_wp2_with fail
        obtain ⟨W1, hW1⟩ : ∃ W1, W1 = wr.drew := ⟨_, rfl⟩
        have b0 : Below wr.heap.size wr W1 := by rw [hW1]; exact (Below.refl _ _).drew
        have M1 := Lib.hid (M.out.below b0)
        replace x0 := below_cells b0 x0
        replace x1 := below_cells b0 x1
        replace x2 := below_cells b0 x2
        replace c0 := below_cells b0 c0
        replace c1 := below_cells b0 c1
        have HW := Lib.hid hW1
        clear hW1 b0 cf
        refine region_go (fun w' => w'.cell? ⟨c, 0, none⟩ = some (.int .i64 most) ∧ w'.cell? ⟨c, 1, none⟩ = some (.slice p r.length cap)) (by kernel_rfl) ?hS0 (fun hH => ?_)
        case hS0 =>
          rw [← HW.out]; exact ⟨c0, c1⟩
        rw [← HW.out] at hH ⊢
        refine kY 0 hH ?_
        repeat simp only [Act.put, uA1, uB1, uC1]
        refine kY 1 hH ?_
        repeat simp only [Act.put, uA1, uB1, uC1]
        refine kY 2 hH ?_
        repeat simp only [Act.put, uA1, uB1, uC1]
        refine kY 3 hH ?_
        repeat simp only [Act.put, uA1, uB1, uC1]
        refine kY 4 hH ?_
        repeat simp only [Act.put, uA1, uB1, uC1]
        refine kY 5 hH ?_
        repeat simp only [Act.put, uA1, uB1, uC1]
        refine kY 6 hH ?_
        repeat simp only [Act.put, uA1, uB1, uC1]
        refine kY 7 hH ?_
        repeat simp only [Act.put, uA1, uB1, uC1]
        refine kY 8 hH ?_
        repeat simp only [Act.put, uA1, uB1, uC1]
        refine kY 9 hH ?_
        repeat simp only [Act.put, uA1, uB1, uC1]
        refine wpAnyH_done (by decide +kernel) ?_ _
        clear HW
        go_wp2_with fail
        refine (worst c most _ G r _ M1.out.ro H.out.2.2 (by have := FU.out; omega)).mono ?_
        rintro e w5 ⟨⟨i, hi, rfl, hfar⟩, hb5⟩
        have FL := far_last H.out.2.1.sorted H.out.1 hi hfar (by omega)
        have M5 := Lib.hid (M1.out.below hb5)
        replace x0 := below_cells hb5 x0
        replace x1 := below_cells hb5 x1
        replace x2 := below_cells hb5 x2
        have i0 : (0 : Int) ≤ (i : Int) := by omega
        have i1 : (i : Int) < (r.length : Int) := by omega
        rw [show L.getD (most - 1) h = r[i] from by rw [FL, ← FU.out]; simp [List.getD, show L.length - 1 < L.length by omega]] at PLH
        have PE2 := Lib.hid (perm_erase H.out.1 (by omega) hi FL.symm)
        rw [show L.eraseIdx (L.length - 1) = L.take (most - 1) from by rw [← FU.out, List.eraseIdx_eq_take_drop_succ, List.drop_eq_nil_of_le (by omega), List.append_nil]] at PE2
        clear hb5 hfar FL c0 c1
        go_wp2_with fail
        obtain ⟨W2, hW2⟩ : ∃ W2, W2 = w5.drew := ⟨_, rfl⟩
        have b0 : Below w5.heap.size w5 W2 := by rw [hW2]; exact (Below.refl _ _).drew
        have M6 := Lib.hid (M5.out.below b0)
        replace x0 := below_cells b0 x0
        replace x1 := below_cells b0 x1
        replace x2 := below_cells b0 x2
        have c1 := M6.out.ro.cells.2.1
        obtain ⟨rs', -, -, hel⟩ := M6.out.ro.hits.rows
        obtain ⟨b, off, up, uc, -, rfl, -, -, d0, d1, d2, -, -⟩ := hel i hi
        have HW := Lib.hid hW2
        have hbd := Below.refl W2.heap.size W2
        clear hW2 b0 hel
        refine region_go (fun w' => w'.cell? ⟨c, 1, none⟩ = some (.slice (some ⟨b, off, none⟩) r.length cap) ∧ w'.cell? ⟨w.heap.size, 0, none⟩ = some (.int .u64 h.id) ∧ w'.cell? ⟨w.heap.size, 1, none⟩ = some (.int .u64 h.dist) ∧ w'.cell? ⟨w.heap.size, 2, none⟩ = some (.slice q4 m4 k4) ∧ w'.cell? ⟨b, off + i * 3, none⟩ = some (.int .u64 r[i].id) ∧ w'.cell? ⟨b, off + i * 3 + 1, none⟩ = some (.int .u64 r[i].dist) ∧ w'.cell? ⟨b, off + i * 3 + 1 + 1, none⟩ = some (.slice up r[i].vec.length uc)) (by kernel_rfl) ?hS0 (fun hH => ?_)
        case hS0 =>
          rw [← HW.out]; exact ⟨c1, x0, x1, x2, d0, d1, d2⟩
        rw [← HW.out] at hH ⊢
        refine kY 0 hH ?_
        repeat simp only [Act.put, uA1, uB1, uC1]
        refine kY 1 hH ?_
        repeat simp only [Act.put, uA1, uB1, uC1]
        refine kY 2 hH ?_
        repeat simp only [Act.put, uA1, uB1, uC1]
        refine kY 3 hH ?_
        repeat simp only [Act.put, uA1, uB1, uC1]
        refine kY 4 hH ?_
        repeat simp only [Act.put, uA1, uB1, uC1]
        refine kY 5 hH ?_
        repeat simp only [Act.put, uA1, uB1, uC1]
        refine kY 6 hH ?_
        repeat simp only [Act.put, uA1, uB1, uC1]
        refine kY 7 hH ?_
        repeat simp only [Act.put, uA1, uB1, uC1]
        refine spk 8 rfl (by decide +kernel) (by rfl) (fun K' hK => ?_)
        go_simp
        refine (refNearer h.id h.dist r[i].id r[i].dist _ _ _).mono ?_
        rintro e w7 ⟨rfl, hb7⟩
        replace hbd := hb7
        try dsimp only
        refine hK.out _ _ ?hS (fun hH' => ?_)
        case hS =>
          exact ⟨below_cells hbd c1, below_cells hbd x0, below_cells hbd x1, below_cells hbd x2, below_cells hbd d0, below_cells hbd d1, below_cells hbd d2⟩
        clear hK K' hH; have hH := hH'; clear hH'; repeat simp only [Act.put, uA1, uB1, uC1]
        refine kY 9 hH ?_
        repeat simp only [Act.put, uA1, uB1, uC1]
        refine wpAnyH_done (by decide +kernel) ?_ _
        have M7 := Lib.hid (M6.out.below hbd)
        replace x0 := below_cells hbd x0
        replace x1 := below_cells hbd x1
        replace x2 := below_cells hbd x2
        clear hH c1 d0 d1 d2 HW hbd
        cases hq : nearB h.id h.dist r[i].id r[i].dist
        · have PZ := Lib.hid (PLH.out.trans (if_neg (by rw [show near h r[i] = false from hq]; simp)))
          clear hq
          go_wp2_with fail
          go_ret
          rw [PZ.out]
          exact M7.out.same H.out.1
        · have PZ := Lib.hid (PLH.out.trans (if_pos hq))
          clear hq
          have c1 := M7.out.ro.cells.2.1
          go_wp2_with fail
          refine (without r i hi (by omega) G _ _ M7.out.ro.hits).mono ?_
          rintro e w8 ⟨v8, rs8, rfl, ho8, hr8, hb8⟩
          obtain ⟨q8, m8, k8, rfl⟩ := own_form ho8
          have c8 := below_cells hb8 c1
          have cf8 := (M7.out.below hb8).ro.cells.2.2
          have MS := Lib.hid (M7.out.set hb8 M7.out.mod.size ho8 hr8)
          have hlw : w.heap.size ≠ c := by omega
          have z0 : (w8.setCell ⟨c, 1, none⟩ (.slice q8 m8 k8)).cell? ⟨w.heap.size, 0, none⟩ = some (.int .u64 h.id) := by rw [World.cell?_setCell_other _ _ _ _ (by simp <;> omega)]; exact below_cells hb8 x0
          have z1 : (w8.setCell ⟨c, 1, none⟩ (.slice q8 m8 k8)).cell? ⟨w.heap.size, 1, none⟩ = some (.int .u64 h.dist) := by rw [World.cell?_setCell_other _ _ _ _ (by simp <;> omega)]; exact below_cells hb8 x1
          have z2 : (w8.setCell ⟨c, 1, none⟩ (.slice q8 m8 k8)).cell? ⟨w.heap.size, 2, none⟩ = some (.slice q4 m4 k4) := by rw [World.cell?_setCell_other _ _ _ _ (by simp <;> omega)]; exact below_cells hb8 x2
          have hm8 : m8 = (r.eraseIdx i).length := by
            obtain ⟨_, _, e, -⟩ := MS.out.ro.hits
            exact (Value.slice.inj e).2.1
          subst hm8
          have hl8 : (r.eraseIdx i).length ≤ 1000000 := by rw [List.length_eraseIdx_of_lt hi]; omega
          have PE := Lib.hid (perm_ins PE2.out h)
          clear hb8 ho8 hr8 c1
          clear x0 x1 x2
          go_wp2_with fail
          obtain ⟨WS, hWS⟩ : ∃ WS, WS = w8.setCell ⟨c, 1, none⟩ (.slice q8 (r.eraseIdx i).length k8) := ⟨_, rfl⟩
          rw [← hWS] at MS z0 z1 z2 ⊢
          clear hWS c8 cf8
          have x0 := z0
          have x1 := z1
          have x2 := z2
          obtain ⟨W2, hW2⟩ : ∃ W2, W2 = WS.drew := ⟨_, rfl⟩
          have b2 : Below WS.heap.size WS W2 := by rw [hW2]; exact (Below.refl _ _).drew
          have M2 := Lib.hid (MS.out.below b2)
          replace x0 := below_cells b2 x0
          replace x1 := below_cells b2 x1
          replace x2 := below_cells b2 x2
          have c1 := M2.out.ro.cells.2.1
          obtain ⟨rs2, hrs2, hsrc2, -⟩ := M2.out.ro.hits.rows
          have hl2 := hrs2.len
          have SR := Lib.hid (hl2 ▸ hsrc2)
          have RR := Lib.hid hrs2
          have ONE := Lib.hid (flat3_one hrs2.one)
          have HW2 := Lib.hid hW2
          have hbd := Below.refl W2.heap.size W2
          have hw2 : w.heap.size ≤ W2.heap.size := M2.out.mod.size
          have hn2 : (r.eraseIdx i).length ≤ 1000000 := by omega
          clear hW2 b2 hrs2 hsrc2 hl2
          refine region_goN 12 (fun w' => w'.cell? ⟨c, 1, none⟩ = some (.slice q8 (r.eraseIdx i).length k8) ∧ w'.cell? ⟨w.heap.size, 0, none⟩ = some (.int .u64 h.id) ∧ w'.cell? ⟨w.heap.size, 1, none⟩ = some (.int .u64 h.dist) ∧ w'.cell? ⟨w.heap.size, 2, none⟩ = some (.slice q4 m4 k4)) (by kernel_rfl) ?hS0 (fun hH => ?_)
          case hS0 =>
            rw [← HW2.out]; exact ⟨c1, x0, x1, x2⟩
          rw [← HW2.out] at hH ⊢
          refine kYN 0 hH ?_
          repeat simp only [Act.put, uA1, uB1, uC1]
          refine kYN 2 hH ?_
          repeat simp only [Act.put, uA1, uB1, uC1]
          refine kYN 3 hH ?_
          repeat simp only [Act.put, uA1, uB1, uC1]
          refine kYN 4 hH ?_
          repeat simp only [Act.put, uA1, uB1, uC1]
          refine kYN 5 hH ?_
          repeat simp only [Act.put, uA1, uB1, uC1]
          refine kYN 7 hH ?_
          repeat simp only [Act.put, uA1, uB1, uC1]
          refine spBN 1 8 rfl rfl (by decide) (by decide) ?hr ?hw ?hv (fun K' hK => ?b1_1) (fun K' hK => ?b2_1)
          case hr => decide +kernel
          case hw => rfl
          case hv => rfl
          case b1_1 =>
            go_simp
            have hr0 := own_empty _ W2.heap.size 38 3 hbd.size
            try rw [show (W2.alloc (.cells #[.int .u64 h.id, .int .u64 h.dist, .slice q4 m4 k4] 38)).heap.size = W2.heap.size + 1 from by simp] at hr0
            try have hne9 := Nat.ne_of_lt (lt_block he9)
            try replace he9 := (heap_alloc_old _ (.cells #[] 38) (lt_block he9)).trans he9
            replace hbd := hbd.alloc hbd.size (.cells #[] 38)
            try dsimp only
            refine hK.out _ _ ?hS (fun hH' => ?_)
            case hS =>
              exact ⟨below_cells hbd c1, below_cells hbd x0, below_cells hbd x1, below_cells hbd x2⟩
            clear hK K' hH; have hH := hH'; clear hH'; repeat simp only [Act.put, uA1, uB1, uC1]
            refine spBN 6 8 rfl rfl (by decide) (by decide) ?hr ?hw ?hv (fun K' hK => ?b1_2) (fun K' hK => ?b2_2)
            case hr => decide +kernel
            case hw => rfl
            case hv => rfl
            case b1_2 =>
              obtain ⟨q2, n2, k2, w2, hrun2, hr2, hg2, -⟩ := run_app rowHit hr0 hbd.size (SR.out.below hbd) ONE.out (by simp [maxLen]; omega) (by omega)
              refine wp_append_eq hrun2 _ _ rfl rfl rfl ?_
              try replace he9 := (hg2.block _ (lt_block he9) (by intro e; simp only [Value.ownBlock, Option.some.injEq] at e; first | exact hne9 e | omega)).trans he9
              replace hbd := hbd.grown hg2 hbd.size (fun b hb => (hr0.lt b hb).1)
              simp only [Nat.zero_add, List.nil_append] at hr2
              clear hrun2 hg2 hr0
              try dsimp only
              refine hK.out _ _ ?hS (fun hH' => ?_)
              case hS =>
                exact ⟨below_cells hbd c1, below_cells hbd x0, below_cells hbd x1, below_cells hbd x2⟩
              clear hK K' hH; have hH := hH'; clear hH'; repeat simp only [Act.put, uA1, uB1, uC1]
              refine spkN 8 rfl (by decide) (by decide +kernel) (by rfl) (fun K' hK => ?_)
              go_simp
              have he9 := (fun {W : World} (_ : Below W2.heap.size W2 W) => heap_alloc_new W (.cells #[.int .u64 h.id, .int .u64 h.dist, .slice q4 m4 k4] 38)) hbd
              try rw [show (W2.alloc (.cells #[] 38)).heap.size = W2.heap.size + 1 from by simp] at he9
              try have hne9 := (Nat.ne_of_lt (hr0.lt _ rfl).2).symm
              try replace hr0 := hr0.alloc (.cells #[.int .u64 h.id, .int .u64 h.dist, .slice q4 m4 k4] 38)
              try replace hr2 := hr2.alloc (.cells #[.int .u64 h.id, .int .u64 h.dist, .slice q4 m4 k4] 38)
              replace hbd := hbd.alloc hbd.size (.cells #[.int .u64 h.id, .int .u64 h.dist, .slice q4 m4 k4] 38)
              try dsimp only
              refine hK.out _ _ ?hS (fun hH' => ?_)
              case hS =>
                exact ⟨below_cells hbd c1, below_cells hbd x0, below_cells hbd x1, below_cells hbd x2⟩
              clear hK K' hH; have hH := hH'; clear hH'; repeat simp only [Act.put, uA1, uB1, uC1]
              refine spkN 9 rfl (by decide) (by decide +kernel) (by rfl) (fun K' hK => ?_)
              obtain ⟨g5, c5, w5, hrun5, hown5, hg5, hat5, hlt5⟩ := run_push_at rowHit hr2 hbd.size he9 rfl (by simp [Value.oneCell']) (by simp [maxLen]; omega) (by omega)
              refine wp_append_eq hrun5 _ _ rfl rfl rfl ?_
              replace hbd := hbd.grown hg5 hbd.size (fun b hb => (hr2.lt b hb).1)
              have E := Lib.hid (M2.out.put hbd hw2 hown5 (RR.out.below hbd) PE.out)
              have y1 := below_cells hbd c1
              have yf := (M2.out.below hbd).ro.cells.2.2
              clear hrun5 hown5 hg5 hat5 hlt5
              try dsimp only
              refine hK.out _ _ ?hS (fun hH' => ?_)
              case hS =>
                exact ⟨below_cells hbd c1, below_cells hbd x0, below_cells hbd x1, below_cells hbd x2⟩
              clear hK K' hH; have hH := hH'; clear hH'; repeat simp only [Act.put, uA1, uB1, uC1]
              refine spkN 10 rfl (by decide) (by decide +kernel) (by rfl) (fun K' hK => ?_)
              go_simp
              try dsimp only
              refine hK.out _ _ ?hS (fun hH' => ?_)
              case hS =>
                exact ⟨below_cells hbd c1, below_cells hbd x0, below_cells hbd x1, below_cells hbd x2⟩
              clear hK K' hH; have hH := hH'; clear hH'; repeat simp only [Act.put, uA1, uB1, uC1]
              refine kYN 11 hH ?_
              repeat simp only [Act.put, uA1, uB1, uC1]
              refine spkL rfl (by decide +kernel) (by rfl) (fun K' hK => ?_)
              go_simp
              try dsimp only
              refine hK.out _ _ ?_
              clear hK K' hH; repeat simp only [Act.put, uA1, uB1, uC1]
              refine anyBut_done (by decide +kernel) ?_ _
              go_wp2_with fail
              go_ret
              rw [PZ.out]
              exact E.out
            case b2_2 =>
              go_simp
              have he9 := (fun {W : World} (_ : Below W2.heap.size W2 W) => heap_alloc_new W (.cells #[.int .u64 h.id, .int .u64 h.dist, .slice q4 m4 k4] 38)) hbd
              try rw [show (W2.alloc (.cells #[] 38)).heap.size = W2.heap.size + 1 from by simp] at he9
              try have hne9 := (Nat.ne_of_lt (hr0.lt _ rfl).2).symm
              try replace hr0 := hr0.alloc (.cells #[.int .u64 h.id, .int .u64 h.dist, .slice q4 m4 k4] 38)
              try replace hr2 := hr2.alloc (.cells #[.int .u64 h.id, .int .u64 h.dist, .slice q4 m4 k4] 38)
              replace hbd := hbd.alloc hbd.size (.cells #[.int .u64 h.id, .int .u64 h.dist, .slice q4 m4 k4] 38)
              try dsimp only
              refine hK.out _ _ ?hS (fun hH' => ?_)
              case hS =>
                exact ⟨below_cells hbd c1, below_cells hbd x0, below_cells hbd x1, below_cells hbd x2⟩
              clear hK K' hH; have hH := hH'; clear hH'; repeat simp only [Act.put, uA1, uB1, uC1]
              refine spkN 6 rfl (by decide) (by decide +kernel) (by rfl) (fun K' hK => ?_)
              obtain ⟨q2, n2, k2, w2, hrun2, hr2, hg2, -⟩ := run_app rowHit hr0 hbd.size (SR.out.below hbd) ONE.out (by simp [maxLen]; omega) (by omega)
              refine wp_append_eq hrun2 _ _ rfl rfl rfl ?_
              try replace he9 := (hg2.block _ (lt_block he9) (by intro e; simp only [Value.ownBlock, Option.some.injEq] at e; first | exact hne9 e | omega)).trans he9
              replace hbd := hbd.grown hg2 hbd.size (fun b hb => (hr0.lt b hb).1)
              simp only [Nat.zero_add, List.nil_append] at hr2
              clear hrun2 hg2 hr0
              try dsimp only
              refine hK.out _ _ ?hS (fun hH' => ?_)
              case hS =>
                exact ⟨below_cells hbd c1, below_cells hbd x0, below_cells hbd x1, below_cells hbd x2⟩
              clear hK K' hH; have hH := hH'; clear hH'; repeat simp only [Act.put, uA1, uB1, uC1]
              refine spkN 9 rfl (by decide) (by decide +kernel) (by rfl) (fun K' hK => ?_)
              obtain ⟨g5, c5, w5, hrun5, hown5, hg5, hat5, hlt5⟩ := run_push_at rowHit hr2 hbd.size he9 rfl (by simp [Value.oneCell']) (by simp [maxLen]; omega) (by omega)
              refine wp_append_eq hrun5 _ _ rfl rfl rfl ?_
              replace hbd := hbd.grown hg5 hbd.size (fun b hb => (hr2.lt b hb).1)
              have E := Lib.hid (M2.out.put hbd hw2 hown5 (RR.out.below hbd) PE.out)
              have y1 := below_cells hbd c1
              have yf := (M2.out.below hbd).ro.cells.2.2
              clear hrun5 hown5 hg5 hat5 hlt5
              try dsimp only
              refine hK.out _ _ ?hS (fun hH' => ?_)
              case hS =>
                exact ⟨below_cells hbd c1, below_cells hbd x0, below_cells hbd x1, below_cells hbd x2⟩
              clear hK K' hH; have hH := hH'; clear hH'; repeat simp only [Act.put, uA1, uB1, uC1]
              refine spkN 10 rfl (by decide) (by decide +kernel) (by rfl) (fun K' hK => ?_)
              go_simp
              try dsimp only
              refine hK.out _ _ ?hS (fun hH' => ?_)
              case hS =>
                exact ⟨below_cells hbd c1, below_cells hbd x0, below_cells hbd x1, below_cells hbd x2⟩
              clear hK K' hH; have hH := hH'; clear hH'; repeat simp only [Act.put, uA1, uB1, uC1]
              refine kYN 11 hH ?_
              repeat simp only [Act.put, uA1, uB1, uC1]
              refine spkL rfl (by decide +kernel) (by rfl) (fun K' hK => ?_)
              go_simp
              try dsimp only
              refine hK.out _ _ ?_
              clear hK K' hH; repeat simp only [Act.put, uA1, uB1, uC1]
              refine anyBut_done (by decide +kernel) ?_ _
              go_wp2_with fail
              go_ret
              rw [PZ.out]
              exact E.out
          case b2_1 =>
            go_simp
            have he9 := (fun {W : World} (_ : Below W2.heap.size W2 W) => heap_alloc_new W (.cells #[.int .u64 h.id, .int .u64 h.dist, .slice q4 m4 k4] 38)) hbd
            try rw [show (W2.alloc (.cells #[] 38)).heap.size = W2.heap.size + 1 from by simp] at he9
            try have hne9 := (Nat.ne_of_lt (hr0.lt _ rfl).2).symm
            try replace hr0 := hr0.alloc (.cells #[.int .u64 h.id, .int .u64 h.dist, .slice q4 m4 k4] 38)
            try replace hr2 := hr2.alloc (.cells #[.int .u64 h.id, .int .u64 h.dist, .slice q4 m4 k4] 38)
            replace hbd := hbd.alloc hbd.size (.cells #[.int .u64 h.id, .int .u64 h.dist, .slice q4 m4 k4] 38)
            try dsimp only
            refine hK.out _ _ ?hS (fun hH' => ?_)
            case hS =>
              exact ⟨below_cells hbd c1, below_cells hbd x0, below_cells hbd x1, below_cells hbd x2⟩
            clear hK K' hH; have hH := hH'; clear hH'; repeat simp only [Act.put, uA1, uB1, uC1]
            refine spkN 1 rfl (by decide) (by decide +kernel) (by rfl) (fun K' hK => ?_)
            go_simp
            have hr0 := own_empty _ W2.heap.size 38 3 hbd.size
            try rw [show (W2.alloc (.cells #[.int .u64 h.id, .int .u64 h.dist, .slice q4 m4 k4] 38)).heap.size = W2.heap.size + 1 from by simp] at hr0
            try have hne9 := Nat.ne_of_lt (lt_block he9)
            try replace he9 := (heap_alloc_old _ (.cells #[] 38) (lt_block he9)).trans he9
            replace hbd := hbd.alloc hbd.size (.cells #[] 38)
            try dsimp only
            refine hK.out _ _ ?hS (fun hH' => ?_)
            case hS =>
              exact ⟨below_cells hbd c1, below_cells hbd x0, below_cells hbd x1, below_cells hbd x2⟩
            clear hK K' hH; have hH := hH'; clear hH'; repeat simp only [Act.put, uA1, uB1, uC1]
            refine spkN 6 rfl (by decide) (by decide +kernel) (by rfl) (fun K' hK => ?_)
            obtain ⟨q2, n2, k2, w2, hrun2, hr2, hg2, -⟩ := run_app rowHit hr0 hbd.size (SR.out.below hbd) ONE.out (by simp [maxLen]; omega) (by omega)
            refine wp_append_eq hrun2 _ _ rfl rfl rfl ?_
            try replace he9 := (hg2.block _ (lt_block he9) (by intro e; simp only [Value.ownBlock, Option.some.injEq] at e; first | exact hne9 e | omega)).trans he9
            replace hbd := hbd.grown hg2 hbd.size (fun b hb => (hr0.lt b hb).1)
            simp only [Nat.zero_add, List.nil_append] at hr2
            clear hrun2 hg2 hr0
            try dsimp only
            refine hK.out _ _ ?hS (fun hH' => ?_)
            case hS =>
              exact ⟨below_cells hbd c1, below_cells hbd x0, below_cells hbd x1, below_cells hbd x2⟩
            clear hK K' hH; have hH := hH'; clear hH'; repeat simp only [Act.put, uA1, uB1, uC1]
            refine spkN 9 rfl (by decide) (by decide +kernel) (by rfl) (fun K' hK => ?_)
            obtain ⟨g5, c5, w5, hrun5, hown5, hg5, hat5, hlt5⟩ := run_push_at rowHit hr2 hbd.size he9 rfl (by simp [Value.oneCell']) (by simp [maxLen]; omega) (by omega)
            refine wp_append_eq hrun5 _ _ rfl rfl rfl ?_
            replace hbd := hbd.grown hg5 hbd.size (fun b hb => (hr2.lt b hb).1)
            have E := Lib.hid (M2.out.put hbd hw2 hown5 (RR.out.below hbd) PE.out)
            have y1 := below_cells hbd c1
            have yf := (M2.out.below hbd).ro.cells.2.2
            clear hrun5 hown5 hg5 hat5 hlt5
            try dsimp only
            refine hK.out _ _ ?hS (fun hH' => ?_)
            case hS =>
              exact ⟨below_cells hbd c1, below_cells hbd x0, below_cells hbd x1, below_cells hbd x2⟩
            clear hK K' hH; have hH := hH'; clear hH'; repeat simp only [Act.put, uA1, uB1, uC1]
            refine spkN 10 rfl (by decide) (by decide +kernel) (by rfl) (fun K' hK => ?_)
            go_simp
            try dsimp only
            refine hK.out _ _ ?hS (fun hH' => ?_)
            case hS =>
              exact ⟨below_cells hbd c1, below_cells hbd x0, below_cells hbd x1, below_cells hbd x2⟩
            clear hK K' hH; have hH := hH'; clear hH'; repeat simp only [Act.put, uA1, uB1, uC1]
            refine kYN 11 hH ?_
            repeat simp only [Act.put, uA1, uB1, uC1]
            refine spkL rfl (by decide +kernel) (by rfl) (fun K' hK => ?_)
            go_simp
            try dsimp only
            refine hK.out _ _ ?_
            clear hK K' hH; repeat simp only [Act.put, uA1, uB1, uC1]
            refine anyBut_done (by decide +kernel) ?_ _
            go_wp2_with fail
            go_ret
            rw [PZ.out]
            exact E.out
      · rw [if_neg hfull] at PL
        have hdf : decide (most ≤ r.length) = false := decide_eq_false (by omega)
        have PZ := Lib.hid PL
        have PE := Lib.hid (perm_ins H.out.1 h)
        clear PL hfull hall
        go_wp2_with fail
        obtain ⟨W1, hW1⟩ : ∃ W1, W1 = wr.drew := ⟨_, rfl⟩
        have b0 : Below wr.heap.size wr W1 := by rw [hW1]; exact (Below.refl _ _).drew
        have M1 := Lib.hid (M.out.below b0)
        replace x0 := below_cells b0 x0
        replace x1 := below_cells b0 x1
        replace x2 := below_cells b0 x2
        replace c0 := below_cells b0 c0
        replace c1 := below_cells b0 c1
        have HW := Lib.hid hW1
        clear hW1 b0 cf
        refine region_go (fun w' => w'.cell? ⟨c, 0, none⟩ = some (.int .i64 most) ∧ w'.cell? ⟨c, 1, none⟩ = some (.slice p r.length cap)) (by kernel_rfl) ?hS0 (fun hH => ?_)
        case hS0 =>
          rw [← HW.out]; exact ⟨c0, c1⟩
        rw [← HW.out] at hH ⊢
        refine kY 0 hH ?_
        repeat simp only [Act.put, uA1, uB1, uC1]
        refine kY 1 hH ?_
        repeat simp only [Act.put, uA1, uB1, uC1]
        refine kY 2 hH ?_
        repeat simp only [Act.put, uA1, uB1, uC1]
        refine kY 3 hH ?_
        repeat simp only [Act.put, uA1, uB1, uC1]
        refine kY 4 hH ?_
        repeat simp only [Act.put, uA1, uB1, uC1]
        refine kY 5 hH ?_
        repeat simp only [Act.put, uA1, uB1, uC1]
        refine kY 6 hH ?_
        repeat simp only [Act.put, uA1, uB1, uC1]
        refine kY 7 hH ?_
        repeat simp only [Act.put, uA1, uB1, uC1]
        refine kY 8 hH ?_
        repeat simp only [Act.put, uA1, uB1, uC1]
        refine kY 9 hH ?_
        repeat simp only [Act.put, uA1, uB1, uC1]
        refine wpAnyH_done (by decide +kernel) ?_ _
        clear HW
        go_wp2_with fail
        obtain ⟨W2, hW2⟩ : ∃ W2, W2 = W1.drew := ⟨_, rfl⟩
        have b2 : Below W1.heap.size W1 W2 := by rw [hW2]; exact (Below.refl _ _).drew
        have M2 := Lib.hid (M1.out.below b2)
        replace x0 := below_cells b2 x0
        replace x1 := below_cells b2 x1
        replace x2 := below_cells b2 x2
        have c1 := M2.out.ro.cells.2.1
        obtain ⟨rs2, hrs2, hsrc2, -⟩ := M2.out.ro.hits.rows
        have hl2 := hrs2.len
        have SR := Lib.hid (hl2 ▸ hsrc2)
        have RR := Lib.hid hrs2
        have ONE := Lib.hid (flat3_one hrs2.one)
        have HW2 := Lib.hid hW2
        have hbd := Below.refl W2.heap.size W2
        have hw2 : w.heap.size ≤ W2.heap.size := M2.out.mod.size
        have hn2 : r.length ≤ 1000000 := by omega
        clear hW2 b2 hrs2 hsrc2 hl2
        refine region_goN 12 (fun w' => w'.cell? ⟨c, 1, none⟩ = some (.slice p r.length cap) ∧ w'.cell? ⟨w.heap.size, 0, none⟩ = some (.int .u64 h.id) ∧ w'.cell? ⟨w.heap.size, 1, none⟩ = some (.int .u64 h.dist) ∧ w'.cell? ⟨w.heap.size, 2, none⟩ = some (.slice q4 m4 k4)) (by kernel_rfl) ?hS0 (fun hH => ?_)
        case hS0 =>
          rw [← HW2.out]; exact ⟨c1, x0, x1, x2⟩
        rw [← HW2.out] at hH ⊢
        refine kYN 0 hH ?_
        repeat simp only [Act.put, uA1, uB1, uC1]
        refine kYN 2 hH ?_
        repeat simp only [Act.put, uA1, uB1, uC1]
        refine kYN 3 hH ?_
        repeat simp only [Act.put, uA1, uB1, uC1]
        refine kYN 4 hH ?_
        repeat simp only [Act.put, uA1, uB1, uC1]
        refine kYN 5 hH ?_
        repeat simp only [Act.put, uA1, uB1, uC1]
        refine kYN 7 hH ?_
        repeat simp only [Act.put, uA1, uB1, uC1]
        refine spBN 1 8 rfl rfl (by decide) (by decide) ?hr ?hw ?hv (fun K' hK => ?b1_1) (fun K' hK => ?b2_1)
        case hr => decide +kernel
        case hw => rfl
        case hv => rfl
        case b1_1 =>
          go_simp
          have hr0 := own_empty _ W2.heap.size 38 3 hbd.size
          try rw [show (W2.alloc (.cells #[.int .u64 h.id, .int .u64 h.dist, .slice q4 m4 k4] 38)).heap.size = W2.heap.size + 1 from by simp] at hr0
          try have hne9 := Nat.ne_of_lt (lt_block he9)
          try replace he9 := (heap_alloc_old _ (.cells #[] 38) (lt_block he9)).trans he9
          replace hbd := hbd.alloc hbd.size (.cells #[] 38)
          try dsimp only
          refine hK.out _ _ ?hS (fun hH' => ?_)
          case hS =>
            exact ⟨below_cells hbd c1, below_cells hbd x0, below_cells hbd x1, below_cells hbd x2⟩
          clear hK K' hH; have hH := hH'; clear hH'; repeat simp only [Act.put, uA1, uB1, uC1]
          refine spBN 6 8 rfl rfl (by decide) (by decide) ?hr ?hw ?hv (fun K' hK => ?b1_2) (fun K' hK => ?b2_2)
          case hr => decide +kernel
          case hw => rfl
          case hv => rfl
          case b1_2 =>
            obtain ⟨q2, n2, k2, w2, hrun2, hr2, hg2, -⟩ := run_app rowHit hr0 hbd.size (SR.out.below hbd) ONE.out (by simp [maxLen]; omega) (by omega)
            refine wp_append_eq hrun2 _ _ rfl rfl rfl ?_
            try replace he9 := (hg2.block _ (lt_block he9) (by intro e; simp only [Value.ownBlock, Option.some.injEq] at e; first | exact hne9 e | omega)).trans he9
            replace hbd := hbd.grown hg2 hbd.size (fun b hb => (hr0.lt b hb).1)
            simp only [Nat.zero_add, List.nil_append] at hr2
            clear hrun2 hg2 hr0
            try dsimp only
            refine hK.out _ _ ?hS (fun hH' => ?_)
            case hS =>
              exact ⟨below_cells hbd c1, below_cells hbd x0, below_cells hbd x1, below_cells hbd x2⟩
            clear hK K' hH; have hH := hH'; clear hH'; repeat simp only [Act.put, uA1, uB1, uC1]
            refine spkN 8 rfl (by decide) (by decide +kernel) (by rfl) (fun K' hK => ?_)
            go_simp
            have he9 := (fun {W : World} (_ : Below W2.heap.size W2 W) => heap_alloc_new W (.cells #[.int .u64 h.id, .int .u64 h.dist, .slice q4 m4 k4] 38)) hbd
            try rw [show (W2.alloc (.cells #[] 38)).heap.size = W2.heap.size + 1 from by simp] at he9
            try have hne9 := (Nat.ne_of_lt (hr0.lt _ rfl).2).symm
            try replace hr0 := hr0.alloc (.cells #[.int .u64 h.id, .int .u64 h.dist, .slice q4 m4 k4] 38)
            try replace hr2 := hr2.alloc (.cells #[.int .u64 h.id, .int .u64 h.dist, .slice q4 m4 k4] 38)
            replace hbd := hbd.alloc hbd.size (.cells #[.int .u64 h.id, .int .u64 h.dist, .slice q4 m4 k4] 38)
            try dsimp only
            refine hK.out _ _ ?hS (fun hH' => ?_)
            case hS =>
              exact ⟨below_cells hbd c1, below_cells hbd x0, below_cells hbd x1, below_cells hbd x2⟩
            clear hK K' hH; have hH := hH'; clear hH'; repeat simp only [Act.put, uA1, uB1, uC1]
            refine spkN 9 rfl (by decide) (by decide +kernel) (by rfl) (fun K' hK => ?_)
            obtain ⟨g5, c5, w5, hrun5, hown5, hg5, hat5, hlt5⟩ := run_push_at rowHit hr2 hbd.size he9 rfl (by simp [Value.oneCell']) (by simp [maxLen]; omega) (by omega)
            refine wp_append_eq hrun5 _ _ rfl rfl rfl ?_
            replace hbd := hbd.grown hg5 hbd.size (fun b hb => (hr2.lt b hb).1)
            have E := Lib.hid (M2.out.put hbd hw2 hown5 (RR.out.below hbd) PE.out)
            have y1 := below_cells hbd c1
            have yf := (M2.out.below hbd).ro.cells.2.2
            clear hrun5 hown5 hg5 hat5 hlt5
            try dsimp only
            refine hK.out _ _ ?hS (fun hH' => ?_)
            case hS =>
              exact ⟨below_cells hbd c1, below_cells hbd x0, below_cells hbd x1, below_cells hbd x2⟩
            clear hK K' hH; have hH := hH'; clear hH'; repeat simp only [Act.put, uA1, uB1, uC1]
            refine spkN 10 rfl (by decide) (by decide +kernel) (by rfl) (fun K' hK => ?_)
            go_simp
            try dsimp only
            refine hK.out _ _ ?hS (fun hH' => ?_)
            case hS =>
              exact ⟨below_cells hbd c1, below_cells hbd x0, below_cells hbd x1, below_cells hbd x2⟩
            clear hK K' hH; have hH := hH'; clear hH'; repeat simp only [Act.put, uA1, uB1, uC1]
            refine kYN 11 hH ?_
            repeat simp only [Act.put, uA1, uB1, uC1]
            refine spkL rfl (by decide +kernel) (by rfl) (fun K' hK => ?_)
            go_simp
            try dsimp only
            refine hK.out _ _ ?_
            clear hK K' hH; repeat simp only [Act.put, uA1, uB1, uC1]
            refine anyBut_done (by decide +kernel) ?_ _
            go_wp2_with fail
            go_ret
            rw [PZ.out]
            exact E.out
          case b2_2 =>
            go_simp
            have he9 := (fun {W : World} (_ : Below W2.heap.size W2 W) => heap_alloc_new W (.cells #[.int .u64 h.id, .int .u64 h.dist, .slice q4 m4 k4] 38)) hbd
            try rw [show (W2.alloc (.cells #[] 38)).heap.size = W2.heap.size + 1 from by simp] at he9
            try have hne9 := (Nat.ne_of_lt (hr0.lt _ rfl).2).symm
            try replace hr0 := hr0.alloc (.cells #[.int .u64 h.id, .int .u64 h.dist, .slice q4 m4 k4] 38)
            try replace hr2 := hr2.alloc (.cells #[.int .u64 h.id, .int .u64 h.dist, .slice q4 m4 k4] 38)
            replace hbd := hbd.alloc hbd.size (.cells #[.int .u64 h.id, .int .u64 h.dist, .slice q4 m4 k4] 38)
            try dsimp only
            refine hK.out _ _ ?hS (fun hH' => ?_)
            case hS =>
              exact ⟨below_cells hbd c1, below_cells hbd x0, below_cells hbd x1, below_cells hbd x2⟩
            clear hK K' hH; have hH := hH'; clear hH'; repeat simp only [Act.put, uA1, uB1, uC1]
            refine spkN 6 rfl (by decide) (by decide +kernel) (by rfl) (fun K' hK => ?_)
            obtain ⟨q2, n2, k2, w2, hrun2, hr2, hg2, -⟩ := run_app rowHit hr0 hbd.size (SR.out.below hbd) ONE.out (by simp [maxLen]; omega) (by omega)
            refine wp_append_eq hrun2 _ _ rfl rfl rfl ?_
            try replace he9 := (hg2.block _ (lt_block he9) (by intro e; simp only [Value.ownBlock, Option.some.injEq] at e; first | exact hne9 e | omega)).trans he9
            replace hbd := hbd.grown hg2 hbd.size (fun b hb => (hr0.lt b hb).1)
            simp only [Nat.zero_add, List.nil_append] at hr2
            clear hrun2 hg2 hr0
            try dsimp only
            refine hK.out _ _ ?hS (fun hH' => ?_)
            case hS =>
              exact ⟨below_cells hbd c1, below_cells hbd x0, below_cells hbd x1, below_cells hbd x2⟩
            clear hK K' hH; have hH := hH'; clear hH'; repeat simp only [Act.put, uA1, uB1, uC1]
            refine spkN 9 rfl (by decide) (by decide +kernel) (by rfl) (fun K' hK => ?_)
            obtain ⟨g5, c5, w5, hrun5, hown5, hg5, hat5, hlt5⟩ := run_push_at rowHit hr2 hbd.size he9 rfl (by simp [Value.oneCell']) (by simp [maxLen]; omega) (by omega)
            refine wp_append_eq hrun5 _ _ rfl rfl rfl ?_
            replace hbd := hbd.grown hg5 hbd.size (fun b hb => (hr2.lt b hb).1)
            have E := Lib.hid (M2.out.put hbd hw2 hown5 (RR.out.below hbd) PE.out)
            have y1 := below_cells hbd c1
            have yf := (M2.out.below hbd).ro.cells.2.2
            clear hrun5 hown5 hg5 hat5 hlt5
            try dsimp only
            refine hK.out _ _ ?hS (fun hH' => ?_)
            case hS =>
              exact ⟨below_cells hbd c1, below_cells hbd x0, below_cells hbd x1, below_cells hbd x2⟩
            clear hK K' hH; have hH := hH'; clear hH'; repeat simp only [Act.put, uA1, uB1, uC1]
            refine spkN 10 rfl (by decide) (by decide +kernel) (by rfl) (fun K' hK => ?_)
            go_simp
            try dsimp only
            refine hK.out _ _ ?hS (fun hH' => ?_)
            case hS =>
              exact ⟨below_cells hbd c1, below_cells hbd x0, below_cells hbd x1, below_cells hbd x2⟩
            clear hK K' hH; have hH := hH'; clear hH'; repeat simp only [Act.put, uA1, uB1, uC1]
            refine kYN 11 hH ?_
            repeat simp only [Act.put, uA1, uB1, uC1]
            refine spkL rfl (by decide +kernel) (by rfl) (fun K' hK => ?_)
            go_simp
            try dsimp only
            refine hK.out _ _ ?_
            clear hK K' hH; repeat simp only [Act.put, uA1, uB1, uC1]
            refine anyBut_done (by decide +kernel) ?_ _
            go_wp2_with fail
            go_ret
            rw [PZ.out]
            exact E.out
        case b2_1 =>
          go_simp
          have he9 := (fun {W : World} (_ : Below W2.heap.size W2 W) => heap_alloc_new W (.cells #[.int .u64 h.id, .int .u64 h.dist, .slice q4 m4 k4] 38)) hbd
          try rw [show (W2.alloc (.cells #[] 38)).heap.size = W2.heap.size + 1 from by simp] at he9
          try have hne9 := (Nat.ne_of_lt (hr0.lt _ rfl).2).symm
          try replace hr0 := hr0.alloc (.cells #[.int .u64 h.id, .int .u64 h.dist, .slice q4 m4 k4] 38)
          try replace hr2 := hr2.alloc (.cells #[.int .u64 h.id, .int .u64 h.dist, .slice q4 m4 k4] 38)
          replace hbd := hbd.alloc hbd.size (.cells #[.int .u64 h.id, .int .u64 h.dist, .slice q4 m4 k4] 38)
          try dsimp only
          refine hK.out _ _ ?hS (fun hH' => ?_)
          case hS =>
            exact ⟨below_cells hbd c1, below_cells hbd x0, below_cells hbd x1, below_cells hbd x2⟩
          clear hK K' hH; have hH := hH'; clear hH'; repeat simp only [Act.put, uA1, uB1, uC1]
          refine spkN 1 rfl (by decide) (by decide +kernel) (by rfl) (fun K' hK => ?_)
          go_simp
          have hr0 := own_empty _ W2.heap.size 38 3 hbd.size
          try rw [show (W2.alloc (.cells #[.int .u64 h.id, .int .u64 h.dist, .slice q4 m4 k4] 38)).heap.size = W2.heap.size + 1 from by simp] at hr0
          try have hne9 := Nat.ne_of_lt (lt_block he9)
          try replace he9 := (heap_alloc_old _ (.cells #[] 38) (lt_block he9)).trans he9
          replace hbd := hbd.alloc hbd.size (.cells #[] 38)
          try dsimp only
          refine hK.out _ _ ?hS (fun hH' => ?_)
          case hS =>
            exact ⟨below_cells hbd c1, below_cells hbd x0, below_cells hbd x1, below_cells hbd x2⟩
          clear hK K' hH; have hH := hH'; clear hH'; repeat simp only [Act.put, uA1, uB1, uC1]
          refine spkN 6 rfl (by decide) (by decide +kernel) (by rfl) (fun K' hK => ?_)
          obtain ⟨q2, n2, k2, w2, hrun2, hr2, hg2, -⟩ := run_app rowHit hr0 hbd.size (SR.out.below hbd) ONE.out (by simp [maxLen]; omega) (by omega)
          refine wp_append_eq hrun2 _ _ rfl rfl rfl ?_
          try replace he9 := (hg2.block _ (lt_block he9) (by intro e; simp only [Value.ownBlock, Option.some.injEq] at e; first | exact hne9 e | omega)).trans he9
          replace hbd := hbd.grown hg2 hbd.size (fun b hb => (hr0.lt b hb).1)
          simp only [Nat.zero_add, List.nil_append] at hr2
          clear hrun2 hg2 hr0
          try dsimp only
          refine hK.out _ _ ?hS (fun hH' => ?_)
          case hS =>
            exact ⟨below_cells hbd c1, below_cells hbd x0, below_cells hbd x1, below_cells hbd x2⟩
          clear hK K' hH; have hH := hH'; clear hH'; repeat simp only [Act.put, uA1, uB1, uC1]
          refine spkN 9 rfl (by decide) (by decide +kernel) (by rfl) (fun K' hK => ?_)
          obtain ⟨g5, c5, w5, hrun5, hown5, hg5, hat5, hlt5⟩ := run_push_at rowHit hr2 hbd.size he9 rfl (by simp [Value.oneCell']) (by simp [maxLen]; omega) (by omega)
          refine wp_append_eq hrun5 _ _ rfl rfl rfl ?_
          replace hbd := hbd.grown hg5 hbd.size (fun b hb => (hr2.lt b hb).1)
          have E := Lib.hid (M2.out.put hbd hw2 hown5 (RR.out.below hbd) PE.out)
          have y1 := below_cells hbd c1
          have yf := (M2.out.below hbd).ro.cells.2.2
          clear hrun5 hown5 hg5 hat5 hlt5
          try dsimp only
          refine hK.out _ _ ?hS (fun hH' => ?_)
          case hS =>
            exact ⟨below_cells hbd c1, below_cells hbd x0, below_cells hbd x1, below_cells hbd x2⟩
          clear hK K' hH; have hH := hH'; clear hH'; repeat simp only [Act.put, uA1, uB1, uC1]
          refine spkN 10 rfl (by decide) (by decide +kernel) (by rfl) (fun K' hK => ?_)
          go_simp
          try dsimp only
          refine hK.out _ _ ?hS (fun hH' => ?_)
          case hS =>
            exact ⟨below_cells hbd c1, below_cells hbd x0, below_cells hbd x1, below_cells hbd x2⟩
          clear hK K' hH; have hH := hH'; clear hH'; repeat simp only [Act.put, uA1, uB1, uC1]
          refine kYN 11 hH ?_
          repeat simp only [Act.put, uA1, uB1, uC1]
          refine spkL rfl (by decide +kernel) (by rfl) (fun K' hK => ?_)
          go_simp
          try dsimp only
          refine hK.out _ _ ?_
          clear hK K' hH; repeat simp only [Act.put, uA1, uB1, uC1]
          refine anyBut_done (by decide +kernel) ?_ _
          go_wp2_with fail
          go_ret
          rw [PZ.out]
          exact E.out

end Go.Proofs.YtpjbkaibgajpcaaGreat
