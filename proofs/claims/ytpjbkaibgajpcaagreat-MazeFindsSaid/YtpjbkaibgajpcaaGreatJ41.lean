/- maze's document: New, Find. -/
import Derived.Test.YtpjbkaibgajpcaaGreatJ39
namespace Go.Proofs.YtpjbkaibgajpcaaGreat
open Go.RowKit Go.ChangeMaps
set_option maxRecDepth 20000

theorem rNew (w : World) (dim : Int) :
    Calls Tryz.prog 35 #[.int .i64 dim] w fun e w' => ∃ x c, e = .returned (.pointer (some ⟨x, 0, none⟩)) ∧ RzAt w.heap.size w' x c dim (.slice none 0 0) (.slice none 0 0) (.slice none 0 0) [] emptyM ∧ Below w.heap.size w w' := by
  have hh := heapTwo w (.cells #[.slice none 0 0, .slice none 0 0] 96) (.cells #[.int .i64 dim, .pointer (some ⟨w.heap.size, 0, none⟩), .slice none 0 0] 50)
  obtain ⟨W2, hW2⟩ : ∃ W2, W2 = (w.alloc (.cells #[.slice none 0 0, .slice none 0 0] 96)).alloc (.cells #[.int .i64 dim, .pointer (some ⟨w.heap.size, 0, none⟩), .slice none 0 0] 50) := ⟨_, rfl⟩
  rw [← hW2] at hh
  have hb2 : Below w.heap.size w W2 := by rw [hW2]; exact ((Below.refl _ w).alloc (Nat.le_refl _) _).alloc (by simp) _
  have FIN := Lib.hid (show RzAt w.heap.size W2 (w.heap.size + 1) w.heap.size dim (.slice none 0 0) (.slice none 0 0) (.slice none 0 0) [] emptyM ∧ Below w.heap.size w W2 from
    ⟨⟨hh.2, ⟨hh.1, World.ownsRow_nil _ _ _ _, World.ownsRow_nil _ _ _ _, Nat.le_refl _⟩, World.ownsRow_nil _ _ _ _, Held3.nil _ _ _, by omega, hb2.size⟩, hb2⟩)
  have HW2 := Lib.hid hW2
  clear hh hb2 hW2
  go_enter Tryz.func35, Tryz.ntmps35
  go_wp2_with fail
  go_ret
  rw [← HW2.out]
  exact ⟨_, _, rfl, FIN.out.1, FIN.out.2⟩

theorem Rows3.setv {w : World} {G : Nat → Prop} {rs : List Hv} {l : List Hz} (h : Rows3 w G rs l) {k : Nat} (hk : k < rs.length) (hl : k < l.length) {u : Value} {xs : List Int} (hu : Nums w .i32 u xs) (hg : LiesIn G u xs.length) : Rows3 w G (rs.set k ⟨rs[k].id, rs[k].dist, u⟩) (l.set k ⟨l[k].id, l[k].dist, xs⟩) := by
  refine ⟨by simp [h.len], fun i h1 h2 => ?_⟩
  rw [List.length_set] at h1 h2
  rw [List.getElem_set, List.getElem_set]
  by_cases e : k = i
  · subst e
    obtain ⟨a, b, -⟩ := h.each k hk hl
    rw [if_pos rfl, if_pos rfl]
    exact ⟨a, b, hu, hg⟩
  · rw [if_neg e, if_neg e]
    exact h.each i h1 h2

theorem Rows3.typed {w w' : World} {rs : List Hv} {l : List Hz} (h : Rows3 w (OfType w 21) rs l) (ha : ∀ j, OfType w 21 j → w'.heap[j]? = w.heap[j]?) : Rows3 w' (OfType w' 21) rs l :=
  (h.agree ha).mono fun j hj => by
    obtain ⟨cs, fr, e⟩ := id hj
    exact ⟨cs, fr, (ha j hj).trans e⟩

def RFindTells (w : World) (R : List Hz × Nat × Int) (e : Ending) (w' : World) : Prop :=
  ∃ u F, e = .returned (.tuple #[u, .int .i64 R.2.1, .int .i64 R.2.2]) ∧ HitsF w' F u R.1 ∧ Below w.heap.size w w'

theorem RFindTells.none {w : World} {c : Int} : RFindTells w ([], 0, c) (.returned (.tuple #[.slice none 0 0, .int .i64 0, .int .i64 c])) w :=
  ⟨_, fun _ => False, rfl, HitsF.nil _ _, Below.refl _ _⟩

theorem toldN_zero (s : Mz) (R : List Hz) : toldN s R 0 = R := by simp [toldN]

theorem entry_atR {L : List Hz} (h : 0 < L.length) : entryZ L = L[0].id := by
  cases L with
  | nil => simp at h
  | cons a l => rfl


set_option maxRecDepth 100000 in
set_option maxHeartbeats 16000000 in
theorem rFind {B : Nat} {w : World} {x c : Nat} {dim : Int} {vn ve lv : Value} {rs : List Hv} {s : Mz} (h : RzAt B w x c dim vn ve lv rs s) (ok : OkM dim s) (hL : s.L.length ≤ 900) (v : Value) (xs : List Int) (hv : Nums w .i32 v xs) (ef : Int) :
    Calls Tryz.prog 23 #[.pointer (some ⟨x, 0, none⟩), v, .int .i64 ef] w (RFindTells w (findM dim s xs ef)) := by
  have hEf := ok.few
  have hlr : rs.length = s.L.length := h.held.len
  obtain ⟨lp, ln, lc, hlv⟩ := own_form h.row
  subst hlv
  obtain rfl : ln = rs.length := own_len h.row
  have H := Lib.hid h
  have cR := Lib.hid (rRight w x dim v xs (cellsB h.cell 0) hv)
  have V := Lib.hid hv
  have OK := Lib.hid ok
  have HLR := Lib.hid hlr
  obtain ⟨vq, vc, rfl, -, -, -, -⟩ := hv.slice
  unfold findM
  by_cases h1 : ef < 1
  · rw [if_pos (.inl h1)]
    clear h ok hv hlr
    go_enter Tryz.func23, Tryz.ntmps23
    go_wp2_with fail
    go_ret3
    exact RFindTells.none
  by_cases h2 : 256 < ef
  · rw [if_pos (.inr h2)]
    clear h ok hv hlr
    go_enter Tryz.func23, Tryz.ntmps23
    go_wp2_with fail
    go_ret3
    exact RFindTells.none
  rw [if_neg (by omega)]
  cases hr : rightZ dim xs with
  | false =>
    rw [if_pos rfl]
    rw [hr] at cR
    clear h ok hv hr hlr
    go_enter Tryz.func23, Tryz.ntmps23
    go_wp2_with fail
    (with_reducible refine cR.out.mono ?_)
    rintro e w1 ⟨rfl, rfl⟩
    go_wp2_with fail
    go_ret3
    exact RFindTells.none
  | true =>
    rw [if_neg (by simp)]
    rw [hr] at cR
    have x2 := cellsB H.out.cell 2
    by_cases hL0 : s.L = []
    · rw [if_pos hL0]
      have hn0 : rs.length = 0 := by rw [HLR.out, hL0]; rfl
      have hr0 : rs = [] := List.eq_nil_of_length_eq_zero hn0
      subst hr0
      have x2' : w.cell? ⟨x, 2, none⟩ = some (.slice lp 0 lc) := x2
      clear h ok hv hr hL0 hlr x2 hn0
      go_enter Tryz.func23, Tryz.ntmps23
      go_wp2_with fail
      (with_reducible refine cR.out.mono ?_)
      rintro e w1 ⟨rfl, rfl⟩
      go_wp2_with fail
      go_ret3
      exact RFindTells.none
    · rw [if_neg hL0]
      have hn0 : 0 < rs.length := by
        rw [HLR.out]
        exact List.length_pos_iff.2 hL0
      have hn1 : (0 : Int) < rs.length := by omega
      have hn2 : ((rs.length : Int) == 0) = false := by simp only [beq_eq_false_iff_ne, ne_eq]; omega
      have hn3 : ¬ rs.length = 0 := by omega
      have hn4 : ¬ (rs.length : Int) = 0 := by omega
      obtain ⟨W4, hW4⟩ : ∃ W4, W4 = w.drew := ⟨_, rfl⟩
      have hb4 : Below w.heap.size w W4 := by rw [hW4]; exact (Below.refl _ _).drew
      have H4 := Lib.hid (H.out.below hb4)
      have B4 := Lib.hid hb4
      have cS := Lib.hid (fun W (hW : Below W4.heap.size W4 W) => rSpace (H4.out.below hW) hL (.slice vq xs.length vc) xs ((V.out.below hb4).below hW))
      obtain ⟨g0, cg, hv0, -, -⟩ := H.out.row.form hn0
      obtain ⟨rfl, -, rfl⟩ := Value.slice.inj hv0
      have e0 := own_cell H4.out.row rfl (flat3_get rs 0 hn0).1
      simp only [Nat.zero_mul] at e0
      obtain ⟨yi, hyi⟩ : ∃ i, i = rs[0].id := ⟨_, rfl⟩
      rw [← hyi] at e0
      have hye : entryZ s.L = yi := by
        rw [hyi, (H.out.held.own 0 hn0 (by rw [← HLR.out]; exact hn0)).1.1]
        exact entry_atR (by rw [← HLR.out]; exact hn0)
      rw [hye]
      have RA := Lib.hid (H4.out.walkA hL (by omega) xs ef.toNat (by omega) yi)
      have RB := Lib.hid (H4.out.walkB hL (by omega) xs ef.toNat (by omega) yi)
      have hRl := (resW_bare (spaceZ s.L xs) s.E (most := ef.toNat) (by omega) [yi]).2
      have hRb := (resW_bare (spaceZ s.L xs) s.E (most := ef.toNat) (by omega) [yi]).1
      obtain ⟨R, hR⟩ : ∃ l, l = (resW (spaceZ s.L xs) s.E ef.toNat [yi]).1 := ⟨_, rfl⟩
      obtain ⟨nn, hnn⟩ : ∃ n, n = (resW (spaceZ s.L xs) s.E ef.toNat [yi]).2 := ⟨_, rfl⟩
      rw [← hR, ← hnn, show ((ef.toNat : Nat) : Int) = ef by omega] at RA RB
      rw [← hR, ← hnn]
      rw [← hR] at hRl hRb
      have NB := Lib.hid hRb
      have I4 := Lib.hid (And.intro (cellsB H4.out.cell 2) e0)
      have HW := Lib.hid hW4
      clear h ok hv hr hlr hye hyi e0 hW4 hb4 hL0 hv0 hR hnn hRb
      have k0 : (0 : Int) ≤ 0 ∧ (0 : Int) < rs.length := by omega
      go_enter Tryz.func23, Tryz.ntmps23
      go_wp2_with fail
      (with_reducible refine cR.out.mono ?_)
      rintro e w1 ⟨rfl, rfl⟩
      go_upto_region 9 with fail
      go_cut [9, 10] (fun st sn wc => ∃ (pp : Option Addr) (cap : Nat) (rs8 : List Hv), st = .slice pp R.length cap ∧ sn = .int .i64 nn ∧ wc.ownsRow w1.heap.size 38 3 (.slice pp R.length cap) R.length (flat3 rs8) ∧ rs8.length = R.length ∧ Rows3 wc (OfType wc 21) rs8 R ∧ Below w1.heap.size w1 wc)
      case first =>
        refine region_go (fun w' => w'.cell? ⟨x, 2, none⟩ = some (.slice (some ⟨g0, 0, none⟩) rs.length lc) ∧ w'.cell? ⟨g0, 0, none⟩ = some (.int .u64 yi)) (by kernel_rfl) ?hS0 (fun hH => ?_)
        case hS0 =>
          rw [← HW.out]; exact I4.out
        rw [← HW.out] at hH ⊢
        refine kY 0 hH ?_
        repeat simp only [Act.put, uA1, uB1, uC1]
        refine kY 1 hH ?_
        repeat simp only [Act.put, uA1, uB1, uC1]
        refine kY 3 hH ?_
        repeat simp only [Act.put, uA1, uB1, uC1]
        refine kY 4 hH ?_
        repeat simp only [Act.put, uA1, uB1, uC1]
        refine kY 5 hH ?_
        repeat simp only [Act.put, uA1, uB1, uC1]
        refine kY 6 hH ?_
        repeat simp only [Act.put, uA1, uB1, uC1]
        refine kY 7 hH ?_
        repeat simp only [Act.put, uA1, uB1, uC1]
        refine kY 8 hH ?_
        repeat simp only [Act.put, uA1, uB1, uC1]
        refine kY 9 hH ?_
        repeat simp only [Act.put, uA1, uB1, uC1]
        refine kY 10 hH ?_
        repeat simp only [Act.put, uA1, uB1, uC1]
        refine spB 2 11 rfl rfl ?hr ?hw ?hv (fun K' hK => ?b1_1) (fun K' hK => ?b2_1)
        case hr => decide +kernel
        case hw => rfl
        case hv => rfl
        case b1_1 =>
          go_simp
          with_reducible refine (cS.out _ (by first | exact Below.refl _ _ | exact (Below.refl _ _).alloc (Nat.le_refl _) _)).mono ?_
          rintro e w5 ⟨sx, sv, rfl, hS5⟩
          try dsimp only
          refine hK.out _ _ ?hS (fun hH' => ?_)
          case hS =>
            exact ⟨below_cells hS5.old hH.1, below_cells hS5.old hH.2⟩
          clear hK K' hH; have hH := hH'; clear hH'; repeat simp only [Act.put, uA1, uB1, uC1]
          refine spk 11 rfl (by decide +kernel) (by rfl) (fun K' hK => ?_)
          go_simp
          try dsimp only
          refine hK.out _ _ ?hS (fun hH' => ?_)
          case hS =>
            exact ⟨below_cells ((Below.refl _ _).alloc (Nat.le_refl _) _) hH.1, below_cells ((Below.refl _ _).alloc (Nat.le_refl _) _) hH.2⟩
          clear hK K' hH; have hH := hH'; clear hH'; repeat simp only [Act.put, uA1, uB1, uC1]
          refine spk 12 rfl (by decide +kernel) (by rfl) (fun K' hK => ?_)
          go_simp
          first
          | (with_reducible refine (RA.out _ _ _ hS5).mono ?_)
          | (with_reducible refine (RB.out _ _ _ hS5).mono ?_)
          rintro e w8 ⟨v8, rs8, rfl, ho8, hr8, hb8⟩
          obtain ⟨pp, n8, cap, rfl⟩ := own_form ho8
          obtain rfl : n8 = R.length := own_len ho8
          have O8 := Lib.hid (And.intro (own_mono ho8 B4.out.size) (And.intro hr8.len (And.intro (rows_bare (G := OfType w8 21) hr8 NB.out) (B4.out.trans (hb8.mono B4.out.size)))))
          clear ho8 hr8
          try dsimp only
          refine hK.out _ _ ?hS (fun hH' => ?_)
          case hS =>
            exact ⟨below_cells hb8 I4.out.1, below_cells hb8 I4.out.2⟩
          clear hK K' hH; have hH := hH'; clear hH'; repeat simp only [Act.put, uA1, uB1, uC1]
          refine kY 13 hH ?_
          repeat simp only [Act.put, uA1, uB1, uC1]
          refine kY 14 hH ?_
          repeat simp only [Act.put, uA1, uB1, uC1]
          refine kY 15 hH ?_
          repeat simp only [Act.put, uA1, uB1, uC1]
          refine kY 16 hH ?_
          repeat simp only [Act.put, uA1, uB1, uC1]
          refine kY 17 hH ?_
          repeat simp only [Act.put, uA1, uB1, uC1]
          refine wpAnyH_done (by decide +kernel) ?_ _
          clear hH hb8
          go_wp2_with fail
          go_meet
          exact ⟨pp, cap, rs8, rfl, rfl, O8.out.1, O8.out.2.1, O8.out.2.2.1, O8.out.2.2.2⟩
        case b2_1 =>
          go_simp
          try dsimp only
          refine hK.out _ _ ?hS (fun hH' => ?_)
          case hS =>
            exact ⟨below_cells ((Below.refl _ _).alloc (Nat.le_refl _) _) hH.1, below_cells ((Below.refl _ _).alloc (Nat.le_refl _) _) hH.2⟩
          clear hK K' hH; have hH := hH'; clear hH'; repeat simp only [Act.put, uA1, uB1, uC1]
          refine spk 2 rfl (by decide +kernel) (by rfl) (fun K' hK => ?_)
          go_simp
          with_reducible refine (cS.out _ (by first | exact Below.refl _ _ | exact (Below.refl _ _).alloc (Nat.le_refl _) _)).mono ?_
          rintro e w5 ⟨sx, sv, rfl, hS5⟩
          try dsimp only
          refine hK.out _ _ ?hS (fun hH' => ?_)
          case hS =>
            exact ⟨below_cells hS5.old hH.1, below_cells hS5.old hH.2⟩
          clear hK K' hH; have hH := hH'; clear hH'; repeat simp only [Act.put, uA1, uB1, uC1]
          refine spk 12 rfl (by decide +kernel) (by rfl) (fun K' hK => ?_)
          go_simp
          first
          | (with_reducible refine (RA.out _ _ _ hS5).mono ?_)
          | (with_reducible refine (RB.out _ _ _ hS5).mono ?_)
          rintro e w8 ⟨v8, rs8, rfl, ho8, hr8, hb8⟩
          obtain ⟨pp, n8, cap, rfl⟩ := own_form ho8
          obtain rfl : n8 = R.length := own_len ho8
          have O8 := Lib.hid (And.intro (own_mono ho8 B4.out.size) (And.intro hr8.len (And.intro (rows_bare (G := OfType w8 21) hr8 NB.out) (B4.out.trans (hb8.mono B4.out.size)))))
          clear ho8 hr8
          try dsimp only
          refine hK.out _ _ ?hS (fun hH' => ?_)
          case hS =>
            exact ⟨below_cells hb8 I4.out.1, below_cells hb8 I4.out.2⟩
          clear hK K' hH; have hH := hH'; clear hH'; repeat simp only [Act.put, uA1, uB1, uC1]
          refine kY 13 hH ?_
          repeat simp only [Act.put, uA1, uB1, uC1]
          refine kY 14 hH ?_
          repeat simp only [Act.put, uA1, uB1, uC1]
          refine kY 15 hH ?_
          repeat simp only [Act.put, uA1, uB1, uC1]
          refine kY 16 hH ?_
          repeat simp only [Act.put, uA1, uB1, uC1]
          refine kY 17 hH ?_
          repeat simp only [Act.put, uA1, uB1, uC1]
          refine wpAnyH_done (by decide +kernel) ?_ _
          clear hH hb8
          go_wp2_with fail
          go_meet
          exact ⟨pp, cap, rs8, rfl, rfl, O8.out.1, O8.out.2.1, O8.out.2.2.1, O8.out.2.2.2⟩
      case rest =>
        obtain ⟨pp, cap, rs8, rfl, rfl, q1, hlr8, q2, q3⟩ := hcut
        have O8 := Lib.hid (And.intro q1 (And.intro q2 q3))
        clear q1 q2 q3
        go_wp2_with fail
        go_loopg [48] R.length (fun q' i wr => ∃ (j : Nat) (rs : List Hv), q' = R.length - j ∧ j ≤ R.length ∧ i = .int .i64 j ∧ wr.ownsRow w1.heap.size 38 3 (.slice pp R.length cap) R.length (flat3 rs) ∧ rs.length = R.length ∧ Rows3 wr (OfType wr 21) rs (toldN s R j) ∧ Below w1.heap.size w1 wr)
        case atStart => exact ⟨0, rs8, rfl, by omega, rfl, O8.out.1, hlr8, by rw [toldN_zero]; exact O8.out.2.1, O8.out.2.2⟩
        case round =>
          obtain ⟨j, rs, rfl, hj, rfl, ho, hlr, hh, hb⟩ := hrel
          by_cases hlt : j < R.length
          · obtain ⟨g, cg, hv, -, -⟩ := ho.form (by omega)
            obtain ⟨rfl, -, rfl⟩ := Value.slice.inj hv
            have hflat := flat3_get rs j (by omega)
            have hid : rs[j].id = R[j].id := by
              have h1 := (hh.each j (by omega) (by rw [toldN_length]; exact hlt)).1
              rw [toldN_at s R j hlt] at h1
              exact h1
            have hid := Lib.hid hid
            have c0 : wr.cell? ⟨g, j * 3, none⟩ = some (.int .u64 rs[j].id) := own_cell ho rfl hflat.1
            obtain ⟨yj, hyj⟩ : ∃ i, i = rs[j].id := ⟨_, rfl⟩
            rw [← hyj] at c0
            have YI := Lib.hid (hyj.trans hid.out)
            have cV := Lib.hid (rVec (H.out.below hb) yj)
            have j0 : (0 : Int) ≤ (j : Int) := by omega
            have j1 : (j : Int) < (R.length : Int) := by omega
            have KK := Lib.hid (And.intro ho (And.intro hh (And.intro hb hlr)))
            clear ho hh hb hflat hid hyj hv
            go_wp2_with fail
            (with_reducible refine cV.out.mono ?_)
            rintro e w6 ⟨v6, rfl, hu6, hg6, hb6⟩
            obtain ⟨vq6, vc6, rfl, -, -, -, -⟩ := hu6.slice
            obtain ⟨vn6, hvn6⟩ : ∃ n, n = (vecOf s.L yj).length := ⟨_, rfl⟩
            rw [← hvn6] at hu6 hg6
            have ho6b := own_below KK.out.1 hb6
            have hthere := own_there ho6b rfl (j * 3 + 2) 1 (by omega)
            obtain ⟨hc0, hf0⟩ := hthere 0 (by omega)
            simp only [Nat.add_zero] at hc0 hf0
            obtain ⟨z0, hc0⟩ := Option.isSome_iff_exists.1 hc0
            have K6 := Lib.hid (And.intro hu6 (And.intro hb6 (And.intro ho6b (And.intro hg6 hvn6))))
            rw [← hvn6]
            clear hthere hu6 hb6 ho6b hg6 hvn6
            go_wp2_with fail
            go_roundg (R.length - (j + 1))
            case measure => omega
            case rel =>
              obtain ⟨hu6, hb6, hg1, hg6, hvn6⟩ := K6.out
              obtain ⟨ho, hh, hb, hlr⟩ := KK.out
              have hsc := own_setCell hg1 rfl (o := j * 3 + 1 + 1) (by omega) (.slice vq6 vn6 vc6)
              rw [flat3_setv _ _ (by omega)] at hsc
              have hnt : ∀ k, OfType w6 21 k → (w6.setCell ⟨g, j * 3 + 1 + 1, none⟩ (.slice vq6 vn6 vc6)).heap[k]? = w6.heap[k]? := fun k hk => setBk_other (by
                rintro rfl
                exact absurd (hk.ne (own_type hg1 rfl)) (by decide))
              refine ⟨j + 1, rs.set j ⟨rs[j].id, rs[j].dist, .slice vq6 vn6 vc6⟩, rfl, by omega, by go_num, hsc, by rw [List.length_set]; exact hlr, ?_, ?_⟩
              · have h1 : Rows3 w6 (OfType w6 21) rs (toldN s R j) := hh.typed fun k ⟨cs, fr, e⟩ => hb6.block k (lt_block e)
                have h2 := h1.setv (k := j) (by omega) (by rw [toldN_length]; exact hlt) hu6 (fun h0 => hg6 (by rw [hvn6]; exact h0))
                have h3 := h2.typed hnt
                rw [toldN_step s R j hlt, show toldM s R[j] = ⟨((toldN s R j)[j]'(by rw [toldN_length]; exact hlt)).id, ((toldN s R j)[j]'(by rw [toldN_length]; exact hlt)).dist, vecOf s.L yj⟩ from by rw [toldN_at s R j hlt, YI.out]; rfl]
                exact h3
              · have h3 := (hg1.lt g rfl).1
                exact (hb.trans (hb6.mono hb.size)).setCell (show w1.heap.size ≤ g from h3) _
          · obtain rfl : j = R.length := by omega
            have FIN := Lib.hid (show RFindTells w1 (R.map (toldM s), nn, 0) (.returned (.tuple #[.slice pp R.length cap, .int .i64 nn, .int .i64 0])) wr from by
              have : toldN s R R.length = R.map (toldM s) := by simp [toldN]
              rw [this] at hh
              refine ⟨_, fun k => True, rfl, ?_, hb⟩
              exact HitsF.of_own ho (fun _ _ => trivial) (hh.mono fun _ _ => trivial))
            clear ho hh hb
            go_wp2_with fail
            go_ret3
            exact FIN.out

end Go.Proofs.YtpjbkaibgajpcaaGreat
