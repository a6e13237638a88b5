/-
  maze's document: New, Find.
  maze's laws: both mazes are the same.
  maze's laws: lay.
  maze's laws: MazePlays.
  An argument that is a slice of nodes.
-/
import Derived.Test.YtpjbkaibgajpcaaGreatJ40
import Derived.Test.YtpjbkaibgajpcaaGreatJ38
import Derived.Test.YtpjbkaibgajpcaaGreatJ41
import Derived.Test.YtpjbkaibgajpcaaGreatJ34
import Derived.Test.YtpjbkaibgajpcaaGreatJ01
import Derived.Deep.CutBlock
import Derived.Deep.DeepCutAuto
import Derived.Test.YtpjbkaibgajpcaaGreatJ09
namespace Go.Proofs.YtpjbkaibgajpcaaGreat
open Go.RowKit Go.ChangeMaps
set_option maxRecDepth 20000

theorem rNew (w : World) (dim : Int) :
    Calls Tryz.prog 35 #[.int .i64 dim] w fun e w' => ∃ x c, e = .returned (.pointer (some ⟨x, 0, none⟩)) ∧ RzAt w.heap.size w' x c dim (.slice none 0 0) (.slice none 0 0) (.slice none 0 0) [] emptyM ∧ Below w.heap.size w w' := by
  have hh := heapTwo w (.cells #[.slice none 0 0, .slice none 0 0] 96) (.cells #[.int .i64 dim, .pointer (some ⟨w.heap.size, 0, none⟩), .slice none 0 0] 50)
  obtain ⟨W2, hW2⟩ : ∃ W2, W2 = (w.alloc (.cells #[.slice none 0 0, .slice none 0 0] 96)).alloc (.cells #[.int .i64 dim, .pointer (some ⟨w.heap.size, 0, none⟩), .slice none 0 0] 50) := ⟨_, rfl⟩
  rw [← hW2] at hh
  have hb2 : Below w.heap.size w W2 := by rw [hW2]; exact ((Below.refl _ w).alloc (Nat.le_refl _) _).alloc (by simp) _
  have FIN := Lib.hid (show RzAt w.heap.size W2 (w.heap.size + 1) w.heap.size dim (.slice none 0 0) (.slice none 0 0) (.slice none 0 0) [] emptyM ∧ Below w.heap.size w W2 from
    ⟨⟨hh.2, ⟨hh.1, World.ownsRow_nil _ _ _ _, World.ownsRow_nil _ _ _ _, Nat.le_refl _⟩, World.ownsRow_nil _ _ _ _, Held3.nil _ _ _, by omega, hb2.size⟩, hb2⟩)
  have HW2 := Lib.hid hW2
  clear hh hb2 hW2
  go_enter Tryz.func35, Tryz.ntmps35
  go_wp2_with fail
  go_ret
  rw [← HW2.out]
  exact ⟨_, _, rfl, FIN.out.1, FIN.out.2⟩

theorem Rows3.setv {w : World} {G : Nat → Prop} {rs : List Hv} {l : List Hz} (h : Rows3 w G rs l) {k : Nat} (hk : k < rs.length) (hl : k < l.length) {u : Value} {xs : List Int} (hu : Nums w .i32 u xs) (hg : LiesIn G u xs.length) : Rows3 w G (rs.set k ⟨rs[k].id, rs[k].dist, u⟩) (l.set k ⟨l[k].id, l[k].dist, xs⟩) := by
  refine ⟨by simp [h.len], fun i h1 h2 => ?_⟩
  rw [List.length_set] at h1 h2
  rw [List.getElem_set, List.getElem_set]
  by_cases e : k = i
  · subst e
    obtain ⟨a, b, -⟩ := h.each k hk hl
    rw [if_pos rfl, if_pos rfl]
    exact ⟨a, b, hu, hg⟩
  · rw [if_neg e, if_neg e]
    exact h.each i h1 h2

theorem Rows3.typed {w w' : World} {rs : List Hv} {l : List Hz} (h : Rows3 w (OfType w 21) rs l) (ha : ∀ j, OfType w 21 j → w'.heap[j]? = w.heap[j]?) : Rows3 w' (OfType w' 21) rs l :=
  (h.agree ha).mono fun j hj => by
    obtain ⟨cs, fr, e⟩ := id hj
    exact ⟨cs, fr, (ha j hj).trans e⟩

def RFindTells (w : World) (R : List Hz × Nat × Int) (e : Ending) (w' : World) : Prop :=
  ∃ u F, e = .returned (.tuple #[u, .int .i64 R.2.1, .int .i64 R.2.2]) ∧ HitsF w' F u R.1 ∧ Below w.heap.size w w'

theorem RFindTells.none {w : World} {c : Int} : RFindTells w ([], 0, c) (.returned (.tuple #[.slice none 0 0, .int .i64 0, .int .i64 c])) w :=
  ⟨_, fun _ => False, rfl, HitsF.nil _ _, Below.refl _ _⟩

theorem toldN_zero (s : Mz) (R : List Hz) : toldN s R 0 = R := by simp [toldN]

theorem entry_atR {L : List Hz} (h : 0 < L.length) : entryZ L = L[0].id := by
  cases L with
  | nil => simp at h
  | cons a l => rfl


set_option maxRecDepth 100000 in
set_option maxHeartbeats 16000000 in
theorem rFind {B : Nat} {w : World} {x c : Nat} {dim : Int} {vn ve lv : Value} {rs : List Hv} {s : Mz} (h : RzAt B w x c dim vn ve lv rs s) (ok : OkM dim s) (hL : s.L.length ≤ 900) (v : Value) (xs : List Int) (hv : Nums w .i32 v xs) (ef : Int) :
    Calls Tryz.prog 23 #[.pointer (some ⟨x, 0, none⟩), v, .int .i64 ef] w (RFindTells w (findM dim s xs ef)) := by
  have hEf := ok.few
  have hlr : rs.length = s.L.length := h.held.len
  obtain ⟨lp, ln, lc, hlv⟩ := own_form h.row
  subst hlv
  obtain rfl : ln = rs.length := own_len h.row
  have H := Lib.hid h
  have cR := Lib.hid (rRight w x dim v xs (cellsB h.cell 0) hv)
  have V := Lib.hid hv
  have OK := Lib.hid ok
  have HLR := Lib.hid hlr
  obtain ⟨vq, vc, rfl, -, -, -, -⟩ := hv.slice
  unfold findM
  by_cases h1 : ef < 1
  · rw [if_pos (.inl h1)]
    clear h ok hv hlr
    go_enter Tryz.func23, Tryz.ntmps23
    go_wp2_with fail
    go_ret3
    exact RFindTells.none
  by_cases h2 : 256 < ef
  · rw [if_pos (.inr h2)]
    clear h ok hv hlr
    go_enter Tryz.func23, Tryz.ntmps23
    go_wp2_with fail
    go_ret3
    exact RFindTells.none
  rw [if_neg (by omega)]
  cases hr : rightZ dim xs with
  | false =>
    rw [if_pos rfl]
    rw [hr] at cR
    clear h ok hv hr hlr
    go_enter Tryz.func23, Tryz.ntmps23
    go_wp2_with fail
    (with_reducible refine cR.out.mono ?_)
    rintro e w1 ⟨rfl, rfl⟩
    go_wp2_with fail
    go_ret3
    exact RFindTells.none
  | true =>
    rw [if_neg (by simp)]
    rw [hr] at cR
    have x2 := cellsB H.out.cell 2
    by_cases hL0 : s.L = []
    · rw [if_pos hL0]
      have hn0 : rs.length = 0 := by rw [HLR.out, hL0]; rfl
      have hr0 : rs = [] := List.eq_nil_of_length_eq_zero hn0
      subst hr0
      have x2' : w.cell? ⟨x, 2, none⟩ = some (.slice lp 0 lc) := x2
      clear h ok hv hr hL0 hlr x2 hn0
      go_enter Tryz.func23, Tryz.ntmps23
      go_wp2_with fail
      (with_reducible refine cR.out.mono ?_)
      rintro e w1 ⟨rfl, rfl⟩
      go_wp2_with fail
      go_ret3
      exact RFindTells.none
    · rw [if_neg hL0]
      have hn0 : 0 < rs.length := by
        rw [HLR.out]
        exact List.length_pos_iff.2 hL0
      have hn1 : (0 : Int) < rs.length := by omega
      have hn2 : ((rs.length : Int) == 0) = false := by simp only [beq_eq_false_iff_ne, ne_eq]; omega
      have hn3 : ¬ rs.length = 0 := by omega
      have hn4 : ¬ (rs.length : Int) = 0 := by omega
      obtain ⟨W4, hW4⟩ : ∃ W4, W4 = w.drew := ⟨_, rfl⟩
      have hb4 : Below w.heap.size w W4 := by rw [hW4]; exact (Below.refl _ _).drew
      have H4 := Lib.hid (H.out.below hb4)
      have B4 := Lib.hid hb4
      have cS := Lib.hid (fun W (hW : Below W4.heap.size W4 W) => rSpace (H4.out.below hW) hL (.slice vq xs.length vc) xs ((V.out.below hb4).below hW))
      obtain ⟨g0, cg, hv0, -, -⟩ := H.out.row.form hn0
      obtain ⟨rfl, -, rfl⟩ := Value.slice.inj hv0
      have e0 := own_cell H4.out.row rfl (flat3_get rs 0 hn0).1
      simp only [Nat.zero_mul] at e0
      obtain ⟨yi, hyi⟩ : ∃ i, i = rs[0].id := ⟨_, rfl⟩
      rw [← hyi] at e0
      have hye : entryZ s.L = yi := by
        rw [hyi, (H.out.held.own 0 hn0 (by rw [← HLR.out]; exact hn0)).1.1]
        exact entry_atR (by rw [← HLR.out]; exact hn0)
      rw [hye]
      have RA := Lib.hid (H4.out.walkA hL (by omega) xs ef.toNat (by omega) yi)
      have RB := Lib.hid (H4.out.walkB hL (by omega) xs ef.toNat (by omega) yi)
      have hRl := (resW_bare (spaceZ s.L xs) s.E (most := ef.toNat) (by omega) [yi]).2
      have hRb := (resW_bare (spaceZ s.L xs) s.E (most := ef.toNat) (by omega) [yi]).1
      obtain ⟨R, hR⟩ : ∃ l, l = (resW (spaceZ s.L xs) s.E ef.toNat [yi]).1 := ⟨_, rfl⟩
      obtain ⟨nn, hnn⟩ : ∃ n, n = (resW (spaceZ s.L xs) s.E ef.toNat [yi]).2 := ⟨_, rfl⟩
      rw [← hR, ← hnn, show ((ef.toNat : Nat) : Int) = ef by omega] at RA RB
      rw [← hR, ← hnn]
      rw [← hR] at hRl hRb
      have NB := Lib.hid hRb
      have I4 := Lib.hid (And.intro (cellsB H4.out.cell 2) e0)
      have HW := Lib.hid hW4
      clear h ok hv hr hlr hye hyi e0 hW4 hb4 hL0 hv0 hR hnn hRb
      have k0 : (0 : Int) ≤ 0 ∧ (0 : Int) < rs.length := by omega
      go_enter Tryz.func23, Tryz.ntmps23
      go_wp2_with fail
      (with_reducible refine cR.out.mono ?_)
      rintro e w1 ⟨rfl, rfl⟩
      go_upto_region 9 with fail
      go_cut [9, 10] (fun st sn wc => ∃ (pp : Option Addr) (cap : Nat) (rs8 : List Hv), st = .slice pp R.length cap ∧ sn = .int .i64 nn ∧ wc.ownsRow w1.heap.size 38 3 (.slice pp R.length cap) R.length (flat3 rs8) ∧ rs8.length = R.length ∧ Rows3 wc (OfType wc 21) rs8 R ∧ Below w1.heap.size w1 wc)
      case first =>
        refine region_go (fun w' => w'.cell? ⟨x, 2, none⟩ = some (.slice (some ⟨g0, 0, none⟩) rs.length lc) ∧ w'.cell? ⟨g0, 0, none⟩ = some (.int .u64 yi)) (by kernel_rfl) ?hS0 (fun hH => ?_)
        case hS0 =>
          rw [← HW.out]; exact I4.out
        rw [← HW.out] at hH ⊢
        refine kY 0 hH ?_
        repeat simp only [Act.put, uA1, uB1, uC1]
        refine kY 1 hH ?_
        repeat simp only [Act.put, uA1, uB1, uC1]
        refine kY 3 hH ?_
        repeat simp only [Act.put, uA1, uB1, uC1]
        refine kY 4 hH ?_
        repeat simp only [Act.put, uA1, uB1, uC1]
        refine kY 5 hH ?_
        repeat simp only [Act.put, uA1, uB1, uC1]
        refine kY 6 hH ?_
        repeat simp only [Act.put, uA1, uB1, uC1]
        refine kY 7 hH ?_
        repeat simp only [Act.put, uA1, uB1, uC1]
        refine kY 8 hH ?_
        repeat simp only [Act.put, uA1, uB1, uC1]
        refine kY 9 hH ?_
        repeat simp only [Act.put, uA1, uB1, uC1]
        refine kY 10 hH ?_
        repeat simp only [Act.put, uA1, uB1, uC1]
        refine spB 2 11 rfl rfl ?hr ?hw ?hv (fun K' hK => ?b1_1) (fun K' hK => ?b2_1)
        case hr => decide +kernel
        case hw => rfl
        case hv => rfl
        case b1_1 =>
          go_simp
          with_reducible refine (cS.out _ (by first | exact Below.refl _ _ | exact (Below.refl _ _).alloc (Nat.le_refl _) _)).mono ?_
          rintro e w5 ⟨sx, sv, rfl, hS5⟩
          try dsimp only
          refine hK.out _ _ ?hS (fun hH' => ?_)
          case hS =>
            exact ⟨below_cells hS5.old hH.1, below_cells hS5.old hH.2⟩
          clear hK K' hH; have hH := hH'; clear hH'; repeat simp only [Act.put, uA1, uB1, uC1]
          refine spk 11 rfl (by decide +kernel) (by rfl) (fun K' hK => ?_)
          go_simp
          try dsimp only
          refine hK.out _ _ ?hS (fun hH' => ?_)
          case hS =>
            exact ⟨below_cells ((Below.refl _ _).alloc (Nat.le_refl _) _) hH.1, below_cells ((Below.refl _ _).alloc (Nat.le_refl _) _) hH.2⟩
          clear hK K' hH; have hH := hH'; clear hH'; repeat simp only [Act.put, uA1, uB1, uC1]
          refine spk 12 rfl (by decide +kernel) (by rfl) (fun K' hK => ?_)
          go_simp
          first
          | (with_reducible refine (RA.out _ _ _ hS5).mono ?_)
          | (with_reducible refine (RB.out _ _ _ hS5).mono ?_)
          rintro e w8 ⟨v8, rs8, rfl, ho8, hr8, hb8⟩
          obtain ⟨pp, n8, cap, rfl⟩ := own_form ho8
          obtain rfl : n8 = R.length := own_len ho8
          have O8 := Lib.hid (And.intro (own_mono ho8 B4.out.size) (And.intro hr8.len (And.intro (rows_bare (G := OfType w8 21) hr8 NB.out) (B4.out.trans (hb8.mono B4.out.size)))))
          clear ho8 hr8
          try dsimp only
          refine hK.out _ _ ?hS (fun hH' => ?_)
          case hS =>
            exact ⟨below_cells hb8 I4.out.1, below_cells hb8 I4.out.2⟩
          clear hK K' hH; have hH := hH'; clear hH'; repeat simp only [Act.put, uA1, uB1, uC1]
          refine kY 13 hH ?_
          repeat simp only [Act.put, uA1, uB1, uC1]
          refine kY 14 hH ?_
          repeat simp only [Act.put, uA1, uB1, uC1]
          refine kY 15 hH ?_
          repeat simp only [Act.put, uA1, uB1, uC1]
          refine kY 16 hH ?_
          repeat simp only [Act.put, uA1, uB1, uC1]
          refine kY 17 hH ?_
          repeat simp only [Act.put, uA1, uB1, uC1]
          refine wpAnyH_done (by decide +kernel) ?_ _
          clear hH hb8
          go_wp2_with fail
          go_meet
          exact ⟨pp, cap, rs8, rfl, rfl, O8.out.1, O8.out.2.1, O8.out.2.2.1, O8.out.2.2.2⟩
        case b2_1 =>
          go_simp
          try dsimp only
          refine hK.out _ _ ?hS (fun hH' => ?_)
          case hS =>
            exact ⟨below_cells ((Below.refl _ _).alloc (Nat.le_refl _) _) hH.1, below_cells ((Below.refl _ _).alloc (Nat.le_refl _) _) hH.2⟩
          clear hK K' hH; have hH := hH'; clear hH'; repeat simp only [Act.put, uA1, uB1, uC1]
          refine spk 2 rfl (by decide +kernel) (by rfl) (fun K' hK => ?_)
          go_simp
          with_reducible refine (cS.out _ (by first | exact Below.refl _ _ | exact (Below.refl _ _).alloc (Nat.le_refl _) _)).mono ?_
          rintro e w5 ⟨sx, sv, rfl, hS5⟩
          try dsimp only
          refine hK.out _ _ ?hS (fun hH' => ?_)
          case hS =>
            exact ⟨below_cells hS5.old hH.1, below_cells hS5.old hH.2⟩
          clear hK K' hH; have hH := hH'; clear hH'; repeat simp only [Act.put, uA1, uB1, uC1]
          refine spk 12 rfl (by decide +kernel) (by rfl) (fun K' hK => ?_)
          go_simp
          first
          | (with_reducible refine (RA.out _ _ _ hS5).mono ?_)
          | (with_reducible refine (RB.out _ _ _ hS5).mono ?_)
          rintro e w8 ⟨v8, rs8, rfl, ho8, hr8, hb8⟩
          obtain ⟨pp, n8, cap, rfl⟩ := own_form ho8
          obtain rfl : n8 = R.length := own_len ho8
          have O8 := Lib.hid (And.intro (own_mono ho8 B4.out.size) (And.intro hr8.len (And.intro (rows_bare (G := OfType w8 21) hr8 NB.out) (B4.out.trans (hb8.mono B4.out.size)))))
          clear ho8 hr8
          try dsimp only
          refine hK.out _ _ ?hS (fun hH' => ?_)
          case hS =>
            exact ⟨below_cells hb8 I4.out.1, below_cells hb8 I4.out.2⟩
          clear hK K' hH; have hH := hH'; clear hH'; repeat simp only [Act.put, uA1, uB1, uC1]
          refine kY 13 hH ?_
          repeat simp only [Act.put, uA1, uB1, uC1]
          refine kY 14 hH ?_
          repeat simp only [Act.put, uA1, uB1, uC1]
          refine kY 15 hH ?_
          repeat simp only [Act.put, uA1, uB1, uC1]
          refine kY 16 hH ?_
          repeat simp only [Act.put, uA1, uB1, uC1]
          refine kY 17 hH ?_
          repeat simp only [Act.put, uA1, uB1, uC1]
          refine wpAnyH_done (by decide +kernel) ?_ _
          clear hH hb8
          go_wp2_with fail
          go_meet
          exact ⟨pp, cap, rs8, rfl, rfl, O8.out.1, O8.out.2.1, O8.out.2.2.1, O8.out.2.2.2⟩
      case rest =>
        obtain ⟨pp, cap, rs8, rfl, rfl, q1, hlr8, q2, q3⟩ := hcut
        have O8 := Lib.hid (And.intro q1 (And.intro q2 q3))
        clear q1 q2 q3
        go_wp2_with fail
        go_loopg [48] R.length (fun q' i wr => ∃ (j : Nat) (rs : List Hv), q' = R.length - j ∧ j ≤ R.length ∧ i = .int .i64 j ∧ wr.ownsRow w1.heap.size 38 3 (.slice pp R.length cap) R.length (flat3 rs) ∧ rs.length = R.length ∧ Rows3 wr (OfType wr 21) rs (toldN s R j) ∧ Below w1.heap.size w1 wr)
        case atStart => exact ⟨0, rs8, rfl, by omega, rfl, O8.out.1, hlr8, by rw [toldN_zero]; exact O8.out.2.1, O8.out.2.2⟩
        case round =>
          obtain ⟨j, rs, rfl, hj, rfl, ho, hlr, hh, hb⟩ := hrel
          by_cases hlt : j < R.length
          · obtain ⟨g, cg, hv, -, -⟩ := ho.form (by omega)
            obtain ⟨rfl, -, rfl⟩ := Value.slice.inj hv
            have hflat := flat3_get rs j (by omega)
            have hid : rs[j].id = R[j].id := by
              have h1 := (hh.each j (by omega) (by rw [toldN_length]; exact hlt)).1
              rw [toldN_at s R j hlt] at h1
              exact h1
            have hid := Lib.hid hid
            have c0 : wr.cell? ⟨g, j * 3, none⟩ = some (.int .u64 rs[j].id) := own_cell ho rfl hflat.1
            obtain ⟨yj, hyj⟩ : ∃ i, i = rs[j].id := ⟨_, rfl⟩
            rw [← hyj] at c0
            have YI := Lib.hid (hyj.trans hid.out)
            have cV := Lib.hid (rVec (H.out.below hb) yj)
            have j0 : (0 : Int) ≤ (j : Int) := by omega
            have j1 : (j : Int) < (R.length : Int) := by omega
            have KK := Lib.hid (And.intro ho (And.intro hh (And.intro hb hlr)))
            clear ho hh hb hflat hid hyj hv
            go_wp2_with fail
            (with_reducible refine cV.out.mono ?_)
            rintro e w6 ⟨v6, rfl, hu6, hg6, hb6⟩
            obtain ⟨vq6, vc6, rfl, -, -, -, -⟩ := hu6.slice
            obtain ⟨vn6, hvn6⟩ : ∃ n, n = (vecOf s.L yj).length := ⟨_, rfl⟩
            rw [← hvn6] at hu6 hg6
            have ho6b := own_below KK.out.1 hb6
            have hthere := own_there ho6b rfl (j * 3 + 2) 1 (by omega)
            obtain ⟨hc0, hf0⟩ := hthere 0 (by omega)
            simp only [Nat.add_zero] at hc0 hf0
            obtain ⟨z0, hc0⟩ := Option.isSome_iff_exists.1 hc0
            have K6 := Lib.hid (And.intro hu6 (And.intro hb6 (And.intro ho6b (And.intro hg6 hvn6))))
            rw [← hvn6]
            clear hthere hu6 hb6 ho6b hg6 hvn6
            go_wp2_with fail
            go_roundg (R.length - (j + 1))
            case measure => omega
            case rel =>
              obtain ⟨hu6, hb6, hg1, hg6, hvn6⟩ := K6.out
              obtain ⟨ho, hh, hb, hlr⟩ := KK.out
              have hsc := own_setCell hg1 rfl (o := j * 3 + 1 + 1) (by omega) (.slice vq6 vn6 vc6)
              rw [flat3_setv _ _ (by omega)] at hsc
              have hnt : ∀ k, OfType w6 21 k → (w6.setCell ⟨g, j * 3 + 1 + 1, none⟩ (.slice vq6 vn6 vc6)).heap[k]? = w6.heap[k]? := fun k hk => setBk_other (by
                rintro rfl
                exact absurd (hk.ne (own_type hg1 rfl)) (by decide))
              refine ⟨j + 1, rs.set j ⟨rs[j].id, rs[j].dist, .slice vq6 vn6 vc6⟩, rfl, by omega, by go_num, hsc, by rw [List.length_set]; exact hlr, ?_, ?_⟩
              · have h1 : Rows3 w6 (OfType w6 21) rs (toldN s R j) := hh.typed fun k ⟨cs, fr, e⟩ => hb6.block k (lt_block e)
                have h2 := h1.setv (k := j) (by omega) (by rw [toldN_length]; exact hlt) hu6 (fun h0 => hg6 (by rw [hvn6]; exact h0))
                have h3 := h2.typed hnt
                rw [toldN_step s R j hlt, show toldM s R[j] = ⟨((toldN s R j)[j]'(by rw [toldN_length]; exact hlt)).id, ((toldN s R j)[j]'(by rw [toldN_length]; exact hlt)).dist, vecOf s.L yj⟩ from by rw [toldN_at s R j hlt, YI.out]; rfl]
                exact h3
              · have h3 := (hg1.lt g rfl).1
                exact (hb.trans (hb6.mono hb.size)).setCell (show w1.heap.size ≤ g from h3) _
          · obtain rfl : j = R.length := by omega
            have FIN := Lib.hid (show RFindTells w1 (R.map (toldM s), nn, 0) (.returned (.tuple #[.slice pp R.length cap, .int .i64 nn, .int .i64 0])) wr from by
              have : toldN s R R.length = R.map (toldM s) := by simp [toldN]
              rw [this] at hh
              refine ⟨_, fun k => True, rfl, ?_, hb⟩
              exact HitsF.of_own ho (fun _ _ => trivial) (hh.mono fun _ _ => trivial))
            clear ho hh hb
            go_wp2_with fail
            go_ret3
            exact FIN.out

end Go.Proofs.YtpjbkaibgajpcaaGreat

namespace Go.Proofs.YtpjbkaibgajpcaaGreat
open Go.RowKit Go.ChangeMaps
set_option maxRecDepth 20000

set_option maxRecDepth 100000 in
set_option maxHeartbeats 16000000 in
theorem lzSame {B B' : Nat} {w : World} {z p m mv x c : Nat} {Q : Gr} {dim : Int} {VL : List (Int × Value)} {vn ve lv : Value} {rs : List Hv} {s : Mz} (h : MzAt B w z p m mv Q dim (entryZ s.L) VL s) (r : RzAt B' w x c dim vn ve lv rs s) (ok : OkM dim s) (hL : s.L.length ≤ 900) :
    Calls Tryz.prog 24 #[.pointer (some ⟨z, 0, none⟩), .pointer (some ⟨x, 0, none⟩)] w fun e w' => e = .returned (.bool true) ∧ Below w.heap.size w w' := by
  have hNL := ok_len ok
  have hEf := ok.few
  have hlr : rs.length = s.L.length := r.held.len
  obtain ⟨lp, ln, lc, hlv⟩ := own_form r.row
  subst hlv
  obtain rfl : ln = rs.length := own_len r.row
  obtain ⟨np, nn, nc, hvn⟩ := own_form r.doc.nodes
  subst hvn
  obtain rfl : nn = s.N.length := own_len r.doc.nodes
  have hE4 : s.E.length ≤ 400000 := by omega
  have hN4 : s.N.length ≤ 100000 := by omega
  obtain ⟨W1, hW1⟩ : ∃ W1, W1 = w.drew := ⟨_, rfl⟩
  have hb1 : Below w.heap.size w W1 := by rw [hW1]; exact (Below.refl _ _).drew
  have H := Lib.hid (h.below hb1)
  have R := Lib.hid (r.below hb1)
  have I1 := Lib.hid (show W1.cell? ⟨x, 1, none⟩ = some (.pointer (some ⟨c, 0, none⟩)) ∧ W1.cell? ⟨c, 0, none⟩ = some (.slice np s.N.length nc) ∧ W1.cell? ⟨x, 2, none⟩ = some (.slice lp rs.length lc) from ⟨cellsB (r.below hb1).cell 1, (r.below hb1).doc.get0, cellsB (r.below hb1).cell 2⟩)
  have NN := Lib.hid (Nums.of_own (r.below hb1).doc.nodes)
  have B1 := Lib.hid hb1
  have HW := Lib.hid hW1
  have OK := Lib.hid ok
  have NLR := Lib.hid (hNL.trans hlr.symm)
  obtain ⟨nN, hnN⟩ : ∃ n, n = s.N.length := ⟨_, rfl⟩
  obtain ⟨nR, hnR⟩ : ∃ n, n = rs.length := ⟨_, rfl⟩
  have hnR9 : nR ≤ 900 := by omega
  have cK := Lib.hid (H.out.keys hN4)
  have cL := Lib.hid (fun W (hW : Below W1.heap.size W1 W) => (H.out.below hW).length)
  rw [← hnN] at cL I1 NN NLR
  rw [← hnR] at I1 NLR
  obtain rfl : nN = nR := NLR.out
  have EQN := Lib.hid hnN
  have EQR := Lib.hid hnR
  have HLR := Lib.hid hlr
  clear h r ok hW1 hb1 hnN hnR hNL hlr
  go_enter Tryz.func24, Tryz.ntmps24
  go_upto_region 1 with fail
  refine region_go (fun w' => w'.cell? ⟨x, 1, none⟩ = some (.pointer (some ⟨c, 0, none⟩)) ∧ w'.cell? ⟨c, 0, none⟩ = some (.slice np nN nc) ∧ w'.cell? ⟨x, 2, none⟩ = some (.slice lp nN lc)) (by kernel_rfl) ?hS0 (fun hH => ?_)
  case hS0 =>
    rw [← HW.out]; exact I1.out
  rw [← HW.out] at hH ⊢
  refine kY 0 hH ?_
  repeat simp only [Act.put, uA1, uB1, uC1]
  refine kY 2 hH ?_
  repeat simp only [Act.put, uA1, uB1, uC1]
  refine kY 3 hH ?_
  repeat simp only [Act.put, uA1, uB1, uC1]
  refine kY 4 hH ?_
  repeat simp only [Act.put, uA1, uB1, uC1]
  refine kY 5 hH ?_
  repeat simp only [Act.put, uA1, uB1, uC1]
  refine kY 6 hH ?_
  repeat simp only [Act.put, uA1, uB1, uC1]
  refine kY 7 hH ?_
  repeat simp only [Act.put, uA1, uB1, uC1]
  refine kY 8 hH ?_
  repeat simp only [Act.put, uA1, uB1, uC1]
  refine spk 1 rfl (by decide +kernel) (by rfl) (fun K' hK => ?_)
  go_simp
  with_reducible refine cK.out.mono ?_
  rintro e w2 ⟨v2, rfl, ho2, hb2⟩
  obtain ⟨kp, kc, rfl, -, -, -, -⟩ := (Nums.of_own ho2).slice
  have cS := Lib.hid (sameNums s.N s.N _ _ w2 (Nums.of_own ho2) (NN.out.below hb2))
  rw [decide_eq_true (Eq.refl s.N)] at cS
  have EK := Lib.hid EQN.out
  rw [← EQN.out] at cS ⊢
  try dsimp only
  refine hK.out _ _ ?hS (fun hH' => ?_)
  case hS =>
    exact ⟨below_cells hb2 hH.1, below_cells hb2 hH.2.1, below_cells hb2 hH.2.2⟩
  clear hK K' hH; have hH := hH'; clear hH'; repeat simp only [Act.put, uA1, uB1, uC1]
  refine spk 9 rfl (by decide +kernel) (by rfl) (fun K' hK => ?_)
  go_simp
  with_reducible refine cS.out.mono ?_
  rintro e w3 ⟨rfl, hd3⟩
  have B3 := Lib.hid (hb2.trans (hd3.below.mono hb2.size))
  try dsimp only
  refine hK.out _ _ ?hS (fun hH' => ?_)
  case hS =>
    exact ⟨below_cells hd3.below hH.1, below_cells hd3.below hH.2.1, below_cells hd3.below hH.2.2⟩
  clear hK K' hH; have hH := hH'; clear hH'; repeat simp only [Act.put, uA1, uB1, uC1]
  refine kY 10 hH ?_
  repeat simp only [Act.put, uA1, uB1, uC1]
  refine kY 11 hH ?_
  repeat simp only [Act.put, uA1, uB1, uC1]
  refine kY 12 hH ?_
  repeat simp only [Act.put, uA1, uB1, uC1]
  refine kY 14 hH ?_
  repeat simp only [Act.put, uA1, uB1, uC1]
  refine kY 15 hH ?_
  repeat simp only [Act.put, uA1, uB1, uC1]
  refine kY 16 hH ?_
  repeat simp only [Act.put, uA1, uB1, uC1]
  refine kY 17 hH ?_
  repeat simp only [Act.put, uA1, uB1, uC1]
  refine kY 18 hH ?_
  repeat simp only [Act.put, uA1, uB1, uC1]
  refine spk 13 rfl (by decide +kernel) (by rfl) (fun K' hK => ?_)
  go_simp
  with_reducible refine (cL.out _ B3.out).mono ?_
  rintro e w4 ⟨rfl, rfl⟩
  try dsimp only
  refine hK.out _ _ ?hS (fun hH' => ?_)
  case hS =>
    exact hH
  clear hK K' hH; have hH := hH'; clear hH'; repeat simp only [Act.put, uA1, uB1, uC1]
  refine kY 19 hH ?_
  repeat simp only [Act.put, uA1, uB1, uC1]
  refine kY 20 hH ?_
  repeat simp only [Act.put, uA1, uB1, uC1]
  refine wpAnyH_done (by decide +kernel) ?_ _
  clear hH hb2 ho2 hd3
  have H4 := Lib.hid (H.out.below B3.out)
  have R4 := Lib.hid (R.out.below B3.out)
  have x1 := cellsB R4.out.cell 1
  have v1 := R4.out.doc.get0
  rw [← EQN.out] at v1
  have hn63 : nN ≤ 9223372036854775807 := by omega
  go_wp2_with fail
  go_loopg [40] nN (fun q' i wr => ∃ j : Nat, q' = nN - j ∧ j ≤ nN ∧ i = .int .i64 j ∧ Below W1.heap.size W1 wr)
  case atStart => exact ⟨0, rfl, by omega, rfl, B3.out⟩
  case round =>
    obtain ⟨j, rfl, hj, rfl, hbr⟩ := hrel
    by_cases hlt : j < nN
    · have hjn : j < s.N.length := by have := EQN.out; omega
      obtain ⟨b5, o5, rfl, e5⟩ := (NN.out.below hbr).elem hjn
      have hmem : s.N[j] ∈ s.N := List.getElem_mem hjn
      obtain ⟨k, hk⟩ : ∃ k, k = s.N[j] := ⟨_, rfl⟩
      rw [← hk] at e5 hmem
      have HR := Lib.hid (H.out.below hbr)
      have cV := Lib.hid (mVec HR.out OK.out k)
      rw [decide_eq_true hmem] at cV
      have BR := Lib.hid hbr
      have KN := Lib.hid hmem
      clear hk hmem hbr
      go_wp2_with fail
      (with_reducible refine cV.out.mono ?_)
      rintro e w5 ⟨v5, rfl, ho5, hb5⟩
      obtain ⟨vq, vm, vc, rfl⟩ := own_form ho5
      obtain ⟨W6, hW6⟩ : ∃ W6, W6 = w5.drew := ⟨_, rfl⟩
      have hb6 : Below w5.heap.size w5 W6 := by rw [hW6]; exact (Below.refl _ _).drew
      have B6 := Lib.hid (BR.out.trans ((hb5.trans (hb6.mono hb5.size)).mono BR.out.size))
      have R6 := Lib.hid (R.out.below B6.out)
      have V6 := Lib.hid (Nums.of_own (own_below ho5 hb6))
      have I6 := Lib.hid (cellsB R6.out.cell 1)
      have HW6 := Lib.hid hW6
      have cNe := Lib.hid (fun W (hW : Below W1.heap.size W1 W) => (H.out.below hW).near hN4 k)
      have cSo := Lib.hid (fun W (hW : Below W1.heap.size W1 W) => (H.out.below hW).soft hN4 k)
      have cHa := Lib.hid (fun W (hW : Below W1.heap.size W1 W) => (H.out.below hW).has k)
      have dNe := Lib.hid (fun (sf : Bool) W (hW : Below W1.heap.size W1 W) => dNear W B' c s.N s.E (.slice (some ⟨b5, o5, none⟩) s.N.length nc) ve k sf (R.out.below hW).doc hE4)
      have cVe := Lib.hid (fun W (hW : Below W1.heap.size W1 W) => rVec (R.out.below hW) k)
      clear hb5 hb6 hW6 ho5
      go_upto_region 7 with fail
      refine region_goH (fun w' => w'.cell? ⟨x, 1, none⟩ = some (.pointer (some ⟨c, 0, none⟩))) 42 (by kernel_rfl) rfl ?hS0 (fun O hO hH => ?_)
      case hS0 =>
        rw [← HW6.out]; exact I6.out
      rw [← HW6.out] at hH ⊢
      refine kYH 0 hO hH ?_
      repeat simp only [Act.put, uA1, uB1, uC1]
      refine kYH 1 hO hH ?_
      repeat simp only [Act.put, uA1, uB1, uC1]
      refine kYH 3 hO hH ?_
      repeat simp only [Act.put, uA1, uB1, uC1]
      refine kYH 4 hO hH ?_
      repeat simp only [Act.put, uA1, uB1, uC1]
      refine kYH 5 hO hH ?_
      repeat simp only [Act.put, uA1, uB1, uC1]
      refine kYH 6 hO hH ?_
      repeat simp only [Act.put, uA1, uB1, uC1]
      refine kYH 7 hO hH ?_
      repeat simp only [Act.put, uA1, uB1, uC1]
      refine spkH 2 hO rfl (by decide +kernel) (by rfl) (fun K' hK => ?_)
      go_simp
      with_reducible refine (cNe.out _ B6.out).mono ?_
      rintro e w7 ⟨v7, rfl, ho7, hb7⟩
      obtain ⟨p7, c7, rfl, -, -, -, -⟩ := (Nums.of_own ho7).slice
      have B7 := Lib.hid (B6.out.trans (hb7.mono B6.out.size))
      have V7 := Lib.hid (V6.out.below hb7)
      have O7 := Lib.hid (Nums.of_own ho7)
      try dsimp only
      refine hK.out _ _ ?hS (fun hH' => ?_)
      case hS =>
        exact below_cells hb7 hH
      clear hK K' hH; have hH := hH'; clear hH'; repeat simp only [Act.put, uA1, uB1, uC1]
      refine spkH 8 hO rfl (by decide +kernel) (by rfl) (fun K' hK => ?_)
      go_simp
      with_reducible refine (dNe.out _ _ B7.out).mono ?_
      rintro e w8 ⟨v8, rfl, ho8, hb8⟩
      obtain ⟨p8, c8, rfl, -, -, -, -⟩ := (Nums.of_own ho8).slice
      have B8 := Lib.hid (B7.out.trans (hb8.mono B7.out.size))
      have V8 := Lib.hid (V7.out.below hb8)
      have cS1 := sameNums _ _ _ _ w8 (O7.out.below hb8) (Nums.of_own ho8)
      rw [decide_eq_true (Eq.refl (nearD s.E k false))] at cS1
      have cS1 := Lib.hid cS1
      try dsimp only
      refine hK.out _ _ ?hS (fun hH' => ?_)
      case hS =>
        exact below_cells hb8 hH
      clear hK K' hH; have hH := hH'; clear hH'; repeat simp only [Act.put, uA1, uB1, uC1]
      refine spkH 9 hO rfl (by decide +kernel) (by rfl) (fun K' hK => ?_)
      go_simp
      with_reducible refine cS1.out.mono ?_
      rintro e w9 ⟨rfl, hd9⟩
      have B9 := Lib.hid (B8.out.trans (hd9.below.mono B8.out.size))
      have V9 := Lib.hid (V8.out.below hd9.below)
      try dsimp only
      refine hK.out _ _ ?hS (fun hH' => ?_)
      case hS =>
        exact below_cells hd9.below hH
      clear hK K' hH; have hH := hH'; clear hH'; repeat simp only [Act.put, uA1, uB1, uC1]
      refine kYH 10 hO hH ?_
      repeat simp only [Act.put, uA1, uB1, uC1]
      refine kYH 11 hO hH ?_
      repeat simp only [Act.put, uA1, uB1, uC1]
      refine kYH 12 hO hH ?_
      repeat simp only [Act.put, uA1, uB1, uC1]
      refine kYH 13 hO hH ?_
      repeat simp only [Act.put, uA1, uB1, uC1]
      refine kYH 15 hO hH ?_
      repeat simp only [Act.put, uA1, uB1, uC1]
      refine kYH 16 hO hH ?_
      repeat simp only [Act.put, uA1, uB1, uC1]
      refine kYH 17 hO hH ?_
      repeat simp only [Act.put, uA1, uB1, uC1]
      refine kYH 18 hO hH ?_
      repeat simp only [Act.put, uA1, uB1, uC1]
      refine kYH 19 hO hH ?_
      repeat simp only [Act.put, uA1, uB1, uC1]
      refine spkH 14 hO rfl (by decide +kernel) (by rfl) (fun K' hK => ?_)
      go_simp
      with_reducible refine (cSo.out _ B9.out).mono ?_
      rintro e w10 ⟨v10, rfl, ho10, hb10⟩
      obtain ⟨p10, c10, rfl, -, -, -, -⟩ := (Nums.of_own ho10).slice
      have B10 := Lib.hid (B9.out.trans (hb10.mono B9.out.size))
      have V10 := Lib.hid (V9.out.below hb10)
      have O10 := Lib.hid (Nums.of_own ho10)
      try dsimp only
      refine hK.out _ _ ?hS (fun hH' => ?_)
      case hS =>
        exact below_cells hb10 hH
      clear hK K' hH; have hH := hH'; clear hH'; repeat simp only [Act.put, uA1, uB1, uC1]
      refine spkH 20 hO rfl (by decide +kernel) (by rfl) (fun K' hK => ?_)
      go_simp
      with_reducible refine (dNe.out _ _ B10.out).mono ?_
      rintro e w11 ⟨v11, rfl, ho11, hb11⟩
      obtain ⟨p11, c11, rfl, -, -, -, -⟩ := (Nums.of_own ho11).slice
      have B11 := Lib.hid (B10.out.trans (hb11.mono B10.out.size))
      have V11 := Lib.hid (V10.out.below hb11)
      have cS2 := sameNums _ _ _ _ w11 (O10.out.below hb11) (Nums.of_own ho11)
      rw [decide_eq_true (Eq.refl (nearD s.E k true))] at cS2
      have cS2 := Lib.hid cS2
      try dsimp only
      refine hK.out _ _ ?hS (fun hH' => ?_)
      case hS =>
        exact below_cells hb11 hH
      clear hK K' hH; have hH := hH'; clear hH'; repeat simp only [Act.put, uA1, uB1, uC1]
      refine spkH 21 hO rfl (by decide +kernel) (by rfl) (fun K' hK => ?_)
      go_simp
      with_reducible refine cS2.out.mono ?_
      rintro e w12 ⟨rfl, hd12⟩
      have B12 := Lib.hid (B11.out.trans (hd12.below.mono B11.out.size))
      have V12 := Lib.hid (V11.out.below hd12.below)
      try dsimp only
      refine hK.out _ _ ?hS (fun hH' => ?_)
      case hS =>
        exact below_cells hd12.below hH
      clear hK K' hH; have hH := hH'; clear hH'; repeat simp only [Act.put, uA1, uB1, uC1]
      refine kYH 22 hO hH ?_
      repeat simp only [Act.put, uA1, uB1, uC1]
      refine kYH 23 hO hH ?_
      repeat simp only [Act.put, uA1, uB1, uC1]
      refine kYH 24 hO hH ?_
      repeat simp only [Act.put, uA1, uB1, uC1]
      refine kYH 25 hO hH ?_
      repeat simp only [Act.put, uA1, uB1, uC1]
      refine kYH 26 hO hH ?_
      repeat simp only [Act.put, uA1, uB1, uC1]
      refine kYH 27 hO hH ?_
      repeat simp only [Act.put, uA1, uB1, uC1]
      refine kYH 28 hO hH ?_
      repeat simp only [Act.put, uA1, uB1, uC1]
      refine kYH 29 hO hH ?_
      repeat simp only [Act.put, uA1, uB1, uC1]
      refine kYH 30 hO hH ?_
      repeat simp only [Act.put, uA1, uB1, uC1]
      refine kYH 31 hO hH ?_
      repeat simp only [Act.put, uA1, uB1, uC1]
      refine spkH 32 hO rfl (by decide +kernel) (by rfl) (fun K' hK => ?_)
      go_simp
      with_reducible refine (cVe.out _ B12.out).mono ?_
      rintro e w13 ⟨v13, rfl, hu13, -, hb13⟩
      obtain ⟨p13, c13, rfl, -, -, -, -⟩ := hu13.slice
      have B13 := Lib.hid (B12.out.trans (hb13.mono B12.out.size))
      have cS3 := sameVecQ _ _ _ _ w13 (V12.out.below hb13) hu13
      rw [decide_eq_true (Eq.refl (vecOf s.L k))] at cS3
      have cS3 := Lib.hid cS3
      try dsimp only
      refine hK.out _ _ ?hS (fun hH' => ?_)
      case hS =>
        exact below_cells hb13 hH
      clear hK K' hH; have hH := hH'; clear hH'; repeat simp only [Act.put, uA1, uB1, uC1]
      refine spkH 33 hO rfl (by decide +kernel) (by rfl) (fun K' hK => ?_)
      go_simp
      with_reducible refine cS3.out.mono ?_
      rintro e w14 ⟨rfl, hd14⟩
      have B14 := Lib.hid (B13.out.trans (hd14.below.mono B13.out.size))
      try dsimp only
      refine hK.out _ _ ?hS (fun hH' => ?_)
      case hS =>
        exact below_cells hd14.below hH
      clear hK K' hH; have hH := hH'; clear hH'; repeat simp only [Act.put, uA1, uB1, uC1]
      refine kYH 34 hO hH ?_
      repeat simp only [Act.put, uA1, uB1, uC1]
      refine kYH 35 hO hH ?_
      repeat simp only [Act.put, uA1, uB1, uC1]
      refine kYH 36 hO hH ?_
      repeat simp only [Act.put, uA1, uB1, uC1]
      refine kYH 37 hO hH ?_
      repeat simp only [Act.put, uA1, uB1, uC1]
      refine kYH 38 hO hH ?_
      repeat simp only [Act.put, uA1, uB1, uC1]
      refine spkH 39 hO rfl (by decide +kernel) (by rfl) (fun K' hK => ?_)
      go_simp
      with_reducible refine (cHa.out _ B14.out).mono ?_
      rw [decide_eq_true KN.out]
      rintro e w15 ⟨rfl, rfl⟩
      try dsimp only
      refine hK.out _ _ ?hS (fun hH' => ?_)
      case hS =>
        exact hH
      clear hK K' hH; have hH := hH'; clear hH'; repeat simp only [Act.put, uA1, uB1, uC1]
      refine kYH 40 hO hH ?_
      repeat simp only [Act.put, uA1, uB1, uC1]
      refine kYH 41 hO hH ?_
      repeat simp only [Act.put, uA1, uB1, uC1]
      refine doneH hO (by decide +kernel) ?_
      clear hO
      clear hH hb7 ho7 hb8 ho8 hd9 hb10 ho10 hb11 ho11 hd12 hb13 hu13 hd14
      go_wp2_with fail
      go_roundg (nN - (j + 1))
      case measure => omega
      case rel => exact ⟨j + 1, rfl, by omega, by go_num, B14.out⟩
    · have HR := Lib.hid (H.out.below hbr)
      have RR := Lib.hid (R.out.below hbr)
      have cE := Lib.hid (mEntry HR.out rfl OK.out)
      have BR := Lib.hid (B1.out.trans (hbr.mono B1.out.size))
      have x2 := cellsB RR.out.cell 2
      have EQR2 := EQR.out
      rw [← EQR2] at x2
      clear hbr EQR2
      by_cases hL0 : s.L = []
      · have hz : nN = 0 := by have h1 := EQR.out; have h2 := HLR.out; rw [h2, hL0] at h1; exact h1
        rw [show entryZ s.L = 0 from by rw [hL0]; rfl, show (!s.L.isEmpty) = false from by rw [hL0]; rfl] at cE
        have x2' : wr.cell? ⟨x, 2, none⟩ = some (.slice lp 0 lc) := by rw [x2, hz]; rfl
        clear hL0 x2
        subst hz
        go_wp2_with fail
        (with_reducible refine cE.out.mono ?_)
        rintro e w5 ⟨rfl, rfl⟩
        go_wp2_with fail
        go_ret
        exact ⟨rfl, BR.out⟩
      · have hpos : 0 < nN := by have h1 := EQR.out; have h2 := HLR.out; rw [h1, h2]; exact List.length_pos_iff.2 hL0
        have hposI : (0 : Int) < nN := by omega
        have hrl : 0 < rs.length := by have := EQR.out; omega
        obtain ⟨g0, cg, hv0, -, -⟩ := RR.out.row.form hrl
        obtain ⟨hlp, -, -⟩ := Value.slice.inj hv0
        have e0 := own_cell RR.out.row (g := g0) (by rw [hlp]; rfl) (flat3_get rs 0 hrl).1
        simp only [Nat.zero_mul] at e0
        rw [(RR.out.held.own 0 hrl (by rw [← HLR.out]; exact hrl)).1.1, ← entry_atR (by rw [← HLR.out]; exact hrl)] at e0
        rw [show (!s.L.isEmpty) = true from by cases hs : s.L with
          | nil => exact absurd hs hL0
          | cons a l => rfl] at cE
        obtain ⟨en, hen⟩ : ∃ e, e = entryZ s.L := ⟨_, rfl⟩
        rw [← hen] at cE e0
        rw [hlp] at x2
        have hd0 : decide (0 < nN) = true := decide_eq_true hpos
        clear hL0 hv0 hlp hen
        go_wp2_with fail
        (with_reducible refine cE.out.mono ?_)
        rintro e w5 ⟨rfl, rfl⟩
        go_wp2_with fail
        go_ret
        exact ⟨rfl, BR.out⟩

end Go.Proofs.YtpjbkaibgajpcaaGreat

namespace Go.Proofs.YtpjbkaibgajpcaaGreat
open Go.RowKit Go.ChangeMaps
set_option maxRecDepth 20000

def layM (dim : Int) (l : List (Int × List Int)) (n : Nat) : Mz := (l.take n).foldl (fun s y => (putM dim s y.1 (y.2.take 10)).2) emptyM

theorem layM_step (dim : Int) (l : List (Int × List Int)) (j : Nat) (hj : j < l.length) : layM dim l (j + 1) = (putM dim (layM dim l j) l[j].1 (l[j].2.take 10)).2 := by
  unfold layM
  rw [List.take_succ_eq_append_getElem hj, List.foldl_append]
  rfl

theorem layM_ok (dim : Int) (l : List (Int × List Int)) (n : Nat) : OkM dim (layM dim l n) := by
  unfold layM
  have : ∀ (l : List (Int × List Int)) (s : Mz), OkM dim s → OkM dim (l.foldl (fun s y => (putM dim s y.1 (y.2.take 10)).2) s) := by
    intro l
    induction l with
    | nil => intro s h; exact h
    | cons y l ih => intro s h; exact ih _ (h.put _ _)
  exact this _ _ (OkM.empty dim)

theorem put_len (dim : Int) (s : Mz) (k : Int) (v : List Int) : (putM dim s k v).2.L.length ≤ s.L.length + 1 := by
  unfold putM
  split
  · exact Nat.le_succ _
  · split
    · exact Nat.le_succ _
    · simp [newM]

theorem layM_len (dim : Int) (l : List (Int × List Int)) (n : Nat) : (layM dim l n).L.length ≤ n := by
  induction n with
  | zero => simp [layM, emptyM]
  | succ n ih =>
    by_cases hn : n < l.length
    · rw [layM_step dim l n hn]
      have := put_len dim (layM dim l n) l[n].1 (l[n].2.take 10)
      omega
    · have : layM dim l (n + 1) = layM dim l n := by unfold layM; rw [List.take_of_length_le (by omega), List.take_of_length_le (by omega)]
      rw [this]; omega

section
variable {B : Nat} {w w' : World} {z p m mv x c : Nat} {Q : Gr} {dim en : Int} {VL : List (Int × Value)} {vn ve lv : Value} {rs : List Hv} {s : Mz}

theorem MzAt.valLt (h : MzAt B w z p m mv Q dim en VL s) {k : Int} {v : Value} {b : Nat} (hg : getK VL k = some v) (hb : v.ownBlock = some b) : b < w.heap.size := by
  by_cases hk : k ∈ s.L.map (fun h : Hz => h.id)
  · obtain ⟨y, hy, rfl⟩ := List.mem_map.1 hk
    obtain ⟨u, h1, h2⟩ := h.vals y hy
    rw [hg] at h1
    obtain rfl := Option.some.inj h1
    exact (h2.lt b hb).2
  · rw [h.missing k hk] at hg; cases hg

/-- a row of numbers that is not the maze's is written over -/
theorem MzAt.poke (h : MzAt B w z p m mv Q dim en VL s) {u : Value} (hm : Mod (fun j => u.ownBlock = some j) w w') (hu : ∀ j, u.ownBlock = some j → OfType w 21 j) (hne : ∀ k v b, getK VL k = some v → v.ownBlock = some b → u.ownBlock ≠ some b) : MzAt B w' z p m mv Q dim en VL s := by
  have no : ∀ T j, OfType w T j → T ≠ 21 → ¬ u.ownBlock = some j := fun T j ht hT hf => hT (ht.ne (hu j hf))
  have hmap : ∀ j, IsMap w j → w'.heap[j]? = w.heap[j]? := fun j hj => by
    obtain ⟨es, c, h1⟩ := id hj
    exact hm.block j (lt_block h1) fun hf => hj.no (hu j hf)
  refine ⟨(hm.block z (lt_block h.cell) (no _ z ⟨_, _, h.cell⟩ (by decide))).trans h.cell, ⟨⟨(hm.block p (lt_block h.gp.g.cell) (no _ p ⟨_, _, h.gp.g.cell⟩ (by decide))).trans h.gp.g.cell, h.gp.g.outer.kept (hmap m h.gp.g.outer.isMap), fun q hq => (h.gp.g.inner q hq).kept (hmap _ (h.gp.g.inner q hq).isMap), h.gp.g.apart⟩, h.gp.rel, h.gp.low, Nat.le_trans h.gp.big hm.size⟩, h.vecs.kept (hmap mv h.vecs.isMap), h.apart, fun y hy => ?_, h.missing, h.low⟩
  obtain ⟨v, h1, h2⟩ := h.vals y hy
  exact ⟨v, h1, own_agree h2 fun k hk => hm.block k (h2.lt k hk).2 (hne _ v k h1 hk)⟩

theorem RzAt.poke (h : RzAt B w x c dim vn ve lv rs s) {u : Value} (hm : Mod (fun j => u.ownBlock = some j) w w') (hu : ∀ j, u.ownBlock = some j → OfType w 21 j) (hne : ∀ r ∈ rs, ∀ b, r.vec.ownBlock = some b → u.ownBlock ≠ some b) : RzAt B w' x c dim vn ve lv rs s := by
  have no : ∀ T j, OfType w T j → T ≠ 21 → ¬ u.ownBlock = some j := fun T j ht hT hf => hT (ht.ne (hu j hf))
  refine ⟨(hm.block x (lt_block h.cell) (no _ x ⟨_, _, h.cell⟩ (by decide))).trans h.cell, h.doc.kept hm (fun j _ ht => no _ j ht (by decide)) (fun j _ ht => no _ j ht (by decide)) (fun j _ ht => no _ j ht (by decide)), own_agree h.row fun k hk => hm.block k (h.row.lt k hk).2 (no _ k (own_type h.row hk) (by decide)), ?_, h.low, Nat.le_trans h.big hm.size⟩
  exact ⟨h.held.len, fun i h1 h2 => ⟨(h.held.own i h1 h2).1, own_agree (h.held.own i h1 h2).2 fun k hk => hm.block k ((h.held.own i h1 h2).2.lt k hk).2 (hne _ (List.getElem_mem h1) k hk)⟩, h.held.apart⟩
end

theorem own_setInt {w : World} {B e n g t : Nat} {v : Value} {xs : List Int} (h : w.ownsRow B e 1 v n (xs.map (Value.int .i32))) (hg : v.ownBlock = some g) (ht : t < n) (val : Int) :
    (w.setCell ⟨g, t, none⟩ (.int .i32 val)).ownsRow B e 1 v n ((xs.set t val).map (Value.int .i32)) := by
  have := own_setCell h hg (o := t) (by omega) (.int .i32 val)
  rw [List.map_set]
  exact this

def LayTells (w : World) (dim : Int) (s : Mz) (e : Ending) (w' : World) : Prop :=
  (¬ (1 ≤ dim ∧ dim ≤ 8) ∧ e = .returned (.tuple #[.pointer none, .pointer none, .bool true]) ∧ Below w.heap.size w w') ∨
  ((1 ≤ dim ∧ dim ≤ 8) ∧ ∃ z p m mv Q VL B' x c vn ve lv rs, e = .returned (.tuple #[.pointer (some ⟨z, 0, none⟩), .pointer (some ⟨x, 0, none⟩), .bool true]) ∧ MzAt w.heap.size w' z p m mv Q dim (entryZ s.L) VL s ∧ RzAt B' w' x c dim vn ve lv rs s ∧ Below w.heap.size w w')

set_option maxRecDepth 100000 in
set_option maxHeartbeats 16000000 in
theorem lzLay (w : World) (dim : Int) (l : List (Int × List Int)) (v : Value) (hR : Recs w v l) (most : Nat) (hmost : most ≤ 100) :
    Calls Tryz.prog 11 #[.int .i64 dim, v, .int .i64 most] w (LayTells w dim (layM dim l most)) := by
  obtain ⟨lp, lc, rfl, hl1, hl2, -, -⟩ := id hR
  have hl63 : l.length ≤ 9223372036854775807 := by omega
  have LR := Lib.hid hR
  clear hR hl1 hl2
  by_cases hd : 1 ≤ dim ∧ dim ≤ 8
  · have cN := Lib.hid (mNew w dim hd)
    have HD := Lib.hid hd
    obtain ⟨RS, hRS⟩ : ∃ s, s = layM dim l most := ⟨_, rfl⟩
    rw [← hRS]
    have RSH := Lib.hid hRS
    clear hd hRS
    go_enter Tryz.func11, Tryz.ntmps11
    go_wp2_with fail
    (with_reducible refine cN.out.mono ?_)
    rintro e w1 ⟨z, p, m, mv, Q, rfl, hA, hb1⟩
    have cX := Lib.hid (rNew w1 dim)
    have A1 := Lib.hid hA
    have B1 := Lib.hid hb1
    clear hA hb1
    go_wp2_with fail
    (with_reducible refine cX.out.mono ?_)
    rintro e w2 ⟨x, c, rfl, hX, hb2⟩
    have A2 := Lib.hid (A1.out.below hb2)
    have X2 := Lib.hid hX
    have B2 := Lib.hid (B1.out.trans (hb2.mono B1.out.size))
    clear hX hb2
    go_upto_block 0 with fail
    go_cut [33] (fun st wc => ∃ Q VL vn ve lv rs, MzAt w.heap.size wc z p m mv Q dim (entryZ RS.L) VL RS ∧ RzAt w1.heap.size wc x c dim vn ve lv rs RS ∧ Below w.heap.size w wc)
    case first =>
      go_wp2_with fail
      go_loopg [33] l.length (fun q' i wr => ∃ (j : Nat) (Q : Gr) (VL : List (Int × Value)) (vn ve lv : Value) (rs : List Hv), q' = l.length - j ∧ j ≤ l.length ∧ j ≤ most ∧ i = .int .i64 j ∧ MzAt w.heap.size wr z p m mv Q dim (entryZ (layM dim l j).L) VL (layM dim l j) ∧ RzAt w1.heap.size wr x c dim vn ve lv rs (layM dim l j) ∧ Below w.heap.size w wr)
      case atStart => exact ⟨0, Q, [], _, _, _, _, rfl, by omega, by omega, rfl, A2.out, X2.out, B2.out⟩
      case round =>
        obtain ⟨j, Q, VL, vn, ve, lv, rs, rfl, hj, hjm, rfl, hA, hX, hB⟩ := hrel
        by_cases hlt : j < l.length
        · obtain ⟨bb, ob, u0, rfl, e0, e1, hna⟩ := LR.out.elem hlt
          replace e0 := below_cells hB e0
          replace e1 := below_cells hB e1
          have hst := layM_step dim l j hlt
          have hlen := layM_len dim l j
          have hok := layM_ok dim l j
          obtain ⟨k, hk⟩ : ∃ k, k = l[j].1 := ⟨_, rfl⟩
          obtain ⟨ys, hys⟩ : ∃ k, k = l[j].2 := ⟨_, rfl⟩
          rw [← hk] at e0 hst
          rw [← hys] at hst hna
          obtain ⟨s, hs⟩ : ∃ s, s = layM dim l j := ⟨_, rfl⟩
          rw [← hs] at hst hlen hok hA hX
          obtain ⟨up, uc, rfl, -, -, -, -⟩ := id hna.slice
          obtain ⟨un, hun⟩ : ∃ n, n = ys.length := ⟨_, rfl⟩
          rw [← hun] at e1 hna
          have hn0 := hna.below hB
          have NA := Lib.hid hna
          clear hna
          have ST := Lib.hid hst
          have OK := Lib.hid hok
          have A3 := Lib.hid hA
          have X3 := Lib.hid hX
          have B3 := Lib.hid hB
          have N0 := Lib.hid hn0
          have SJ := Lib.hid hs
          by_cases hjq : j = most
          · have hjq' : (most : Int) ≤ (j : Int) := by omega
            have RE := Lib.hid (show RS = s from by rw [RSH.out, SJ.out, hjq])
            clear hst hlen hok hk hys hun hs hA hX hB hn0 hjq
            go_wp2_with fail
            go_meet
            have hb9 : Below wr.heap.size wr (wr.alloc (.cells #[.int .u64 k, .slice up un uc] 74)) := (Below.refl _ _).alloc (Nat.le_refl _) _
            rw [RE.out]
            exact ⟨Q, VL, vn, ve, lv, rs, A3.out.below hb9, X3.out.below hb9, B3.out.trans (hb9.mono B3.out.size)⟩
          · have hjq' : ¬ (most : Int) ≤ (j : Int) := by omega
            obtain ⟨W4, hW4⟩ : ∃ W4, W4 = wr.alloc (.cells #[.int .u64 k, .slice up un uc] 74) := ⟨_, rfl⟩
            have hb4 : Below wr.heap.size wr W4 := by rw [hW4]; exact (Below.refl _ _).alloc (Nat.le_refl _) _
            have y4 : W4.heap[wr.heap.size]? = some (.cells #[.int .u64 k, .slice up un uc] 74 (0, 0)) := by rw [hW4]; exact heap_alloc_new _ _
            have B4 := Lib.hid hb4
            have Y4 := Lib.hid y4
            have HW4 := Lib.hid hW4
            have cC := cutVec ys (.slice up un uc) 10 W4 (N0.out.below hb4) (by decide) (.inr (by decide))
            rw [show Int.toNat 10 = 10 from rfl] at cC
            have cC := Lib.hid cC
            have hjm2 : j + 1 ≤ most := by omega
            have hlen2 : s.L.length ≤ 900 := by omega
            clear hst hlen hok hk hys hun hs hA hX hB hn0 hjq hW4 hb4 y4
            go_wp2_with fail
            rw [← HW4.out]
            (with_reducible refine cC.out.mono ?_)
            rintro e w5 ⟨v5, rfl, ho5, hb5⟩
            obtain ⟨mp, mn, mc, rfl⟩ := own_form ho5
            obtain ⟨cs, hcs⟩ : ∃ cs, cs = ys.take 10 := ⟨_, rfl⟩
            rw [← hcs] at ho5
            obtain rfl : mn = cs.length := own_len ho5
            obtain ⟨W6, hW6⟩ : ∃ W6, W6 = w5.drew := ⟨_, rfl⟩
            have hb6 : Below w5.heap.size w5 W6 := by rw [hW6]; exact (Below.refl _ _).drew
            have ho6 := own_below ho5 hb6
            have b36 : Below wr.heap.size wr W6 := B4.out.trans ((hb5.trans (hb6.mono hb5.size)).mono B4.out.size)
            have A6 := A3.out.below b36
            have X6 := Lib.hid (X3.out.below b36)
            have BW6 := Lib.hid (B3.out.trans (b36.mono B3.out.size))
            have N6 := Lib.hid (N0.out.below b36)
            have Y6 := Lib.hid (((hb5.trans (hb6.mono hb5.size)).block _ (lt_block Y4.out)).trans Y4.out)
            have mlow : ∀ b, (Value.slice mp cs.length mc).ownBlock = some b → wr.heap.size ≤ b ∧ b < W6.heap.size := fun b hb => ⟨Nat.le_trans B4.out.size (ho6.lt b hb).1, (ho6.lt b hb).2⟩
            have ML := Lib.hid mlow
            have O6 := Lib.hid ho6
            have cP := Lib.hid (mPut A6 rfl OK.out hlen2 k (.slice mp cs.length mc) cs (Nums.of_own ho6) (fun _ b hb => own_type ho6 hb))
            have NV0 := Lib.hid (show ∀ k v b, getK VL k = some v → v.ownBlock = some b → b < wr.heap.size from fun k v b h1 h2 => A3.out.valLt h1 h2)
            have NR0 := Lib.hid (show ∀ r ∈ rs, ∀ b, r.vec.ownBlock = some b → b < wr.heap.size from fun r hr b hb => (X3.out.held.lt hr b hb).2)
            have CS := Lib.hid hcs
            have HW6 := Lib.hid hW6
            obtain ⟨t, ht⟩ : ∃ t, t = wr.heap.size := ⟨_, rfl⟩
            rw [← ht] at Y6 ⊢
            have I6 := Lib.hid (And.intro (cellsB Y6.out 0) (cellsB Y6.out 1))
            obtain ⟨cd, hcd⟩ : ∃ c, c = (putM dim s k cs).1 := ⟨_, rfl⟩
            obtain ⟨s2, hs2⟩ : ∃ c, c = (putM dim s k cs).2 := ⟨_, rfl⟩
            rw [← CS.out] at ST
            have PC := Lib.hid (And.intro hcd hs2)
            rw [← hcd, ← hs2] at cP
            rw [← hs2] at ST
            clear ho5 hb5 hcs hW6 hb6 ho6 b36 A6 mlow ht hcd hs2
            go_upto_region 10 with fail
            refine region_goH (fun w' => w'.cell? ⟨t, 0, none⟩ = some (.int .u64 k) ∧ w'.cell? ⟨t, 1, none⟩ = some (.slice up un uc)) 21 (by kernel_rfl) rfl ?hS0 (fun O hO hH => ?_)
            case hS0 =>
              rw [← HW6.out]; exact I6.out
            rw [← HW6.out] at hH ⊢
            refine kYH 0 hO hH ?_
            repeat simp only [Act.put, uA1, uB1, uC1]
            refine kYH 1 hO hH ?_
            repeat simp only [Act.put, uA1, uB1, uC1]
            refine kYH 2 hO hH ?_
            repeat simp only [Act.put, uA1, uB1, uC1]
            refine kYH 3 hO hH ?_
            repeat simp only [Act.put, uA1, uB1, uC1]
            refine kYH 5 hO hH ?_
            repeat simp only [Act.put, uA1, uB1, uC1]
            refine kYH 6 hO hH ?_
            repeat simp only [Act.put, uA1, uB1, uC1]
            refine kYH 7 hO hH ?_
            repeat simp only [Act.put, uA1, uB1, uC1]
            refine kYH 8 hO hH ?_
            repeat simp only [Act.put, uA1, uB1, uC1]
            refine kYH 9 hO hH ?_
            repeat simp only [Act.put, uA1, uB1, uC1]
            refine spkH 4 hO rfl (by decide +kernel) (by rfl) (fun K' hK => ?_)
            go_simp
            with_reducible refine cP.out.mono ?_
            rintro e w7 ⟨rfl, ⟨Q7, VL7, hA7, hNV7⟩, hm7⟩
            have A7 := Lib.hid hA7
            have X7 := Lib.hid (X6.out.mturn hm7)
            have Y7 := Lib.hid (MTurn.box hm7 Y6.out (by decide))
            have b7 := hm7.below (B := w.heap.size) BW6.out.size (fun k hk => hk.1)
            have BW7 := Lib.hid (BW6.out.trans b7)
            have O7 := Lib.hid (own_agree O6.out fun b hb => ((own_type O6.out hb).mturn hm7 (by decide)).1)
            have cC8 := cutVec ys (.slice up un uc) 10 w7 (NA.out.below BW7.out) (by decide) (.inr (by decide))
            rw [show Int.toNat 10 = 10 from rfl, ← CS.out] at cC8
            have cC8 := Lib.hid cC8
            have NV7 := Lib.hid hNV7
            try dsimp only
            refine hK.out _ _ ?hS (fun hH' => ?_)
            case hS =>
              exact ⟨cellsB Y7.out 0, cellsB Y7.out 1⟩
            clear hK K' hH; have hH := hH'; clear hH'; repeat simp only [Act.put, uA1, uB1, uC1]
            refine spkH 10 hO rfl (by decide +kernel) (by rfl) (fun K' hK => ?_)
            go_simp
            with_reducible refine cC8.out.mono ?_
            rintro e w8 ⟨v8, rfl, ho8, hb8⟩
            obtain ⟨mp8, mn8, mc8, rfl⟩ := own_form ho8
            have cX8 := Lib.hid (rPut (X7.out.below hb8) OK.out hlen2 k (.slice mp8 mn8 mc8) cs (Nums.of_own ho8) (fun _ b hb => own_type ho8 hb))
            rw [← PC.out.1, ← PC.out.2] at cX8
            have A8 := Lib.hid (A7.out.below hb8)
            have BW8 := Lib.hid (BW7.out.trans (hb8.mono BW7.out.size))
            have O8 := Lib.hid (own_below O7.out hb8)
            have Y8 := Lib.hid ((hb8.block _ (lt_block Y7.out)).trans Y7.out)
            try dsimp only
            refine hK.out _ _ ?hS (fun hH' => ?_)
            case hS =>
              exact ⟨below_cells hb8 hH.1, below_cells hb8 hH.2⟩
            clear hK K' hH; have hH := hH'; clear hH'; repeat simp only [Act.put, uA1, uB1, uC1]
            refine spkH 11 hO rfl (by decide +kernel) (by rfl) (fun K' hK => ?_)
            go_simp
            with_reducible refine cX8.out.mono ?_
            rintro e w9 ⟨rfl, ⟨vn9, ve9, lv9, rs9, hX9, hNR9⟩, hm9⟩
            have X9 := Lib.hid hX9
            have A9 := Lib.hid (A8.out.rturn hm9)
            have Y9 := Lib.hid (RTurn.box hm9 Y8.out (by decide))
            have b9 := hm9.below (B := w.heap.size) BW8.out.size (fun k hk => Nat.le_trans B1.out.size hk.1)
            have BW9 := Lib.hid (BW8.out.trans b9)
            have O9 := Lib.hid (own_agree O8.out fun b hb => ((own_type O8.out hb).rturn hm9 (by decide)).1)
            have cC9 := cutVec ys (.slice up un uc) 10 w9 (NA.out.below BW9.out) (by decide) (.inr (by decide))
            rw [show Int.toNat 10 = 10 from rfl, ← CS.out] at cC9
            have cC9 := Lib.hid cC9
            have NR9 := Lib.hid hNR9
            try dsimp only
            refine hK.out _ _ ?hS (fun hH' => ?_)
            case hS =>
              exact ⟨cellsB Y9.out 0, cellsB Y9.out 1⟩
            clear hK K' hH; have hH := hH'; clear hH'; repeat simp only [Act.put, uA1, uB1, uC1]
            refine kYH 12 hO hH ?_
            repeat simp only [Act.put, uA1, uB1, uC1]
            refine kYH 13 hO hH ?_
            repeat simp only [Act.put, uA1, uB1, uC1]
            refine kYH 14 hO hH ?_
            repeat simp only [Act.put, uA1, uB1, uC1]
            refine kYH 15 hO hH ?_
            repeat simp only [Act.put, uA1, uB1, uC1]
            refine kYH 16 hO hH ?_
            repeat simp only [Act.put, uA1, uB1, uC1]
            refine spkH 17 hO rfl (by decide +kernel) (by rfl) (fun K' hK => ?_)
            go_simp
            with_reducible refine cC9.out.mono ?_
            rintro e w10 ⟨v10, rfl, ho10, hb10⟩
            obtain ⟨mp10, mn10, mc10, rfl⟩ := own_form ho10
            have cS10 := sameVecQ cs cs _ _ w10 (Nums.of_own (own_below O9.out hb10)) (Nums.of_own ho10)
            rw [decide_eq_true (Eq.refl cs)] at cS10
            have cS10 := Lib.hid cS10
            try dsimp only
            refine hK.out _ _ ?hS (fun hH' => ?_)
            case hS =>
              exact ⟨below_cells hb10 hH.1, below_cells hb10 hH.2⟩
            clear hK K' hH; have hH := hH'; clear hH'; repeat simp only [Act.put, uA1, uB1, uC1]
            refine spkH 18 hO rfl (by decide +kernel) (by rfl) (fun K' hK => ?_)
            go_simp
            with_reducible refine cS10.out.mono ?_
            rintro e w11 ⟨rfl, hd11⟩
            have b911 := hb10.trans (hd11.below.mono hb10.size)
            have A11 := Lib.hid (A9.out.below b911)
            have X11 := Lib.hid (X9.out.below b911)
            have O11 := Lib.hid (own_below O9.out b911)
            have BW11 := Lib.hid (BW9.out.trans (b911.mono BW9.out.size))
            have S78 := Lib.hid (show W6.heap.size ≤ w8.heap.size from Nat.le_trans hm7.size hb8.size)
            try dsimp only
            refine hK.out _ _ ?hS (fun hH' => ?_)
            case hS =>
              exact ⟨below_cells hd11.below hH.1, below_cells hd11.below hH.2⟩
            clear hK K' hH; have hH := hH'; clear hH'; repeat simp only [Act.put, uA1, uB1, uC1]
            refine kYH 19 hO hH ?_
            repeat simp only [Act.put, uA1, uB1, uC1]
            refine kYH 20 hO hH ?_
            repeat simp only [Act.put, uA1, uB1, uC1]
            refine doneH hO (by decide +kernel) ?_
            clear hO
            clear hH hA7 hNV7 hm7 b7 ho8 hb8 hX9 hNR9 hm9 b9 ho10 hb10 hd11 b911
            have hc63 : cs.length ≤ 9223372036854775807 := own_short O11.out
            have POKE := Lib.hid (show ∀ W, Mod (fun j => (Value.slice mp cs.length mc).ownBlock = some j) w11 W → MzAt w.heap.size W z p m mv Q7 dim (entryZ s2.L) VL7 s2 ∧ RzAt w1.heap.size W x c dim vn9 ve9 lv9 rs9 s2 ∧ Below w.heap.size w W from fun W hW => by
              have ht : ∀ j, (Value.slice mp cs.length mc).ownBlock = some j → OfType w11 21 j := fun j hj => own_type O11.out hj
              refine ⟨A11.out.poke hW ht fun k v b h1 h2 h3 => ?_, X11.out.poke hW ht fun r hr b h2 h3 => ?_, BW11.out.trans (hW.below BW11.out.size fun j hj => ?_)⟩
              · have h4 := ML.out b h3
                rcases NV7.out k v b h1 h2 with h5 | h5
                · have := NV0.out k v b h5 h2
                  omega
                · omega
              · have h4 := ML.out b h3
                have h6 := S78.out
                rcases NR9.out r hr b h2 with ⟨q, hq, hqb⟩ | h5
                · have := NR0.out q hq b hqb
                  omega
                · omega
              · have h4 := ML.out j hj
                have h5 := B3.out.size
                omega)
            have WROLD := Lib.hid (And.intro hj hjm2)
            go_wp2_with fail
            go_loopg [67] cs.length (fun q' i wt => ∃ (tt : Nat) (xs' : List Int), q' = cs.length - tt ∧ tt ≤ cs.length ∧ i = .int .i64 tt ∧ xs'.length = cs.length ∧ wt.ownsRow W4.heap.size 21 1 (.slice mp cs.length mc) cs.length (xs'.map (Value.int .i32)) ∧ Mod (fun j => (Value.slice mp cs.length mc).ownBlock = some j) w11 wt)
            case atStart => exact ⟨0, cs, rfl, by omega, rfl, rfl, O11.out, Mod.refl _ _⟩
            case round =>
              obtain ⟨tt, xs', rfl, htt, rfl, hxl, hown, hmt⟩ := hrel
              by_cases hlt5 : tt < cs.length
              · obtain ⟨g, cg, hv, -, -⟩ := hown.form (by omega)
                obtain ⟨rfl, -, rfl⟩ := Value.slice.inj hv
                have e5 := own_cell hown rfl (show (xs'.map (Value.int .i32))[tt]? = some (.int .i32 (xs'[tt]'(by omega))) by simp [List.getElem?_eq_getElem (show tt < xs'.length by omega)])
                obtain ⟨hc0, hf0⟩ := own_there hown rfl tt 1 (by omega) 0 (by omega)
                simp only [Nat.add_zero] at hf0
                obtain ⟨yv, hyv⟩ : ∃ y, y = xs'[tt]'(by omega) := ⟨_, rfl⟩
                rw [← hyv] at e5
                have KK := Lib.hid (And.intro hown (And.intro hmt hxl))
                clear hown hmt hxl hv hyv hc0
                go_wp2_with fail
                go_roundg (cs.length - (tt + 1))
                case measure => omega
                case rel => exact ⟨tt + 1, xs'.set tt _, rfl, by omega, by go_num, by rw [List.length_set]; exact KK.out.2.2, own_setInt KK.out.1 rfl (by omega) _, KK.out.2.1.setCell (p := ⟨g, tt, none⟩) (.inl rfl) _⟩
              · have PK := Lib.hid (POKE.out _ hmt)
                clear hown hmt
                go_wp2_with fail
                go_roundg (l.length - (j + 1))
                case measure => omega
                case rel => exact ⟨j + 1, Q7, VL7, vn9, ve9, lv9, rs9, rfl, by omega, hjm2, by go_num, by rw [ST.out]; exact PK.out.1, by rw [ST.out]; exact PK.out.2.1, PK.out.2.2⟩
        · obtain rfl : j = l.length := by omega
          have RE := Lib.hid (show RS = layM dim l l.length from by rw [RSH.out]; unfold layM; rw [List.take_of_length_le hjm, List.take_length])
          have FIN := Lib.hid (And.intro hA (And.intro hX hB))
          clear hA hX hB
          go_wp2_with fail
          go_meet
          rw [RE.out]
          exact ⟨Q, VL, vn, ve, lv, rs, FIN.out.1, FIN.out.2.1, FIN.out.2.2⟩
    case rest =>
      obtain ⟨Q, VL, vn, ve, lv, rs, hA, hX, hB⟩ := hcut
      have FIN := Lib.hid (And.intro hA (And.intro hX hB))
      clear hA hX hB
      go_wp2_with fail
      go_ret3
      exact .inr ⟨HD.out, z, p, m, mv, Q, VL, _, x, c, vn, ve, lv, rs, rfl, FIN.out.1, FIN.out.2.1, FIN.out.2.2⟩
  · have cN := Lib.hid (mNew_no w dim hd)
    have HD := Lib.hid hd
    have cX := Lib.hid (rNew w dim)
    by_cases hd1 : dim < 1
    · clear hd
      go_enter Tryz.func11, Tryz.ntmps11
      go_wp2_with fail
      (with_reducible refine cN.out.mono ?_)
      rintro e w1 ⟨rfl, rfl⟩
      go_wp2_with fail
      (with_reducible refine cX.out.mono ?_)
      rintro e w2 ⟨x, c, rfl, -, hb2⟩
      have B2 := Lib.hid hb2
      clear hb2
      go_wp2_with fail
      go_ret3
      exact .inl ⟨HD.out, rfl, B2.out⟩
    · have hd2 : 8 < dim := by omega
      clear hd
      go_enter Tryz.func11, Tryz.ntmps11
      go_wp2_with fail
      (with_reducible refine cN.out.mono ?_)
      rintro e w1 ⟨rfl, rfl⟩
      go_wp2_with fail
      (with_reducible refine cX.out.mono ?_)
      rintro e w2 ⟨x, c, rfl, -, hb2⟩
      have B2 := Lib.hid hb2
      clear hb2
      go_wp2_with fail
      go_ret3
      exact .inl ⟨HD.out, rfl, B2.out⟩

end Go.Proofs.YtpjbkaibgajpcaaGreat

namespace Go.Proofs.YtpjbkaibgajpcaaGreat
open Go.RowKit Go.ChangeMaps
set_option maxRecDepth 20000

set_option maxRecDepth 100000 in
set_option maxHeartbeats 8000000 in
theorem mazePlays (w : World) (dim : Int) (l : List (Int × List Int)) (lv : Value) (hR : Recs w lv l) (v : Value) (xs : List Int) (hv : Nums w .i32 v xs) (ef : Int) :
    Law 5 #[.int .i64 dim, lv, v, .int .i64 ef] w := by
  have cA := Lib.hid (awake11 w)
  have LR := Lib.hid hR
  have V := Lib.hid hv
  obtain ⟨vq, vc, rfl, -, -, -, -⟩ := hv.slice
  clear hR hv
  go_enter Tryz.func5, Tryz.ntmps5
  go_wp2_with fail
  (with_reducible refine cA.out.mono ?_)
  rintro e w1 ⟨rfl, hb1⟩
  have cL := lzLay w1 dim l lv (LR.out.below hb1) 40 (by omega)
  rw [show ((40 : Nat) : Int) = 40 from rfl] at cL
  have cL := Lib.hid cL
  have B1 := Lib.hid hb1
  clear hb1
  go_wp2_with fail
  (with_reducible refine cL.out.mono ?_)
  rintro e w2 (⟨-, rfl, hb2⟩ | ⟨-, z, p, m, mv, Q, VL, B', x, c, vn, ve, xlv, rs, rfl, hA, hX, hb2⟩)
  · have B2 := Lib.hid (B1.out.trans (hb2.mono B1.out.size))
    clear hb2
    go_wp2_with fail
    go_ret
    exact ⟨rfl, B2.out⟩
  · have B2 := Lib.hid (B1.out.trans (hb2.mono B1.out.size))
    have OK := Lib.hid (layM_ok dim l 40)
    have hlen := layM_len dim l 40
    obtain ⟨s, hs⟩ : ∃ s, s = layM dim l 40 := ⟨_, rfl⟩
    rw [← hs] at hA hX OK hlen
    have A2 := Lib.hid hA
    have X2 := Lib.hid hX
    have cC := cutVec xs (.slice vq xs.length vc) 10 w2 (V.out.below B2.out) (by decide) (.inr (by decide))
    rw [show Int.toNat 10 = 10 from rfl] at cC
    have cC := Lib.hid cC
    clear hb2 hs hA hX
    go_wp2_with fail
    (with_reducible refine cC.out.mono ?_)
    rintro e w3 ⟨v3, rfl, ho3, hb3⟩
    obtain ⟨ys, hys⟩ : ∃ ys, ys = xs.take 10 := ⟨_, rfl⟩
    rw [← hys] at ho3
    obtain ⟨vq3, vn3, vc3, rfl⟩ := own_form ho3
    have N3 := Lib.hid (Nums.of_own ho3)
    have A3 := Lib.hid (A2.out.below hb3)
    have X3 := Lib.hid (X2.out.below hb3)
    have B3 := Lib.hid (B2.out.trans (hb3.mono B2.out.size))
    have cF := Lib.hid (mFind A3.out rfl OK.out (by omega) _ ys N3.out ef)
    obtain ⟨FR, hFR⟩ : ∃ r, r = findM dim s ys ef := ⟨_, rfl⟩
    rw [← hFR] at cF
    clear ho3 hb3 hys
    go_wp2_with fail
    (with_reducible refine cF.out.mono ?_)
    rintro e w4 ⟨u4, rs4, rfl, ho4, hh4, hb4⟩
    obtain ⟨uq, un, uc, rfl⟩ := own_form ho4
    have H4 := Lib.hid (show HitsF w4 _ (.slice uq un uc) FR.1 from HitsF.of_own ho4 (fun b hb => ho4.lt b hb) hh4.rows)
    have A4 := Lib.hid (A3.out.below hb4)
    have X4 := Lib.hid (X3.out.below hb4)
    have B4 := Lib.hid (B3.out.trans (hb4.mono B3.out.size))
    have cR := Lib.hid (rFind X4.out OK.out (by omega) _ ys (N3.out.below hb4) ef)
    rw [← hFR] at cR
    clear ho4 hh4 hb4 hFR
    go_wp2_with fail
    (with_reducible refine cR.out.mono ?_)
    rintro e w5 ⟨u5, F5, rfl, hh5, hb5⟩
    have cS := Lib.hid (lzSame (A4.out.below hb5) (X4.out.below hb5) OK.out (by omega))
    have H5 := Lib.hid (And.intro (H4.out.below hb5) hh5)
    have B5 := Lib.hid (B4.out.trans (hb5.mono B4.out.size))
    clear hh5 hb5
    go_wp2_with fail
    (with_reducible refine cS.out.mono ?_)
    rintro e w6 ⟨rfl, hb6⟩
    have cQ := Lib.hid (sameHits_self _ _ FR.1 _ _ w6 (H5.out.1.below hb6) (H5.out.2.below hb6))
    have B6 := Lib.hid (B5.out.trans (hb6.mono B5.out.size))
    clear hb6
    go_wp2_with fail
    (with_reducible refine cQ.out.mono ?_)
    rintro e w7 ⟨rfl, hd7⟩
    have B7 := Lib.hid (B6.out.trans (hd7.below.mono B6.out.size))
    clear hd7
    go_wp2_with fail
    go_ret
    exact ⟨rfl, B7.out⟩

end Go.Proofs.YtpjbkaibgajpcaaGreat

namespace Go.Proofs.YtpjbkaibgajpcaaGreat
open Go.ChangeShapes Go.WideShapes Go.ChangeAt Go.RowKit Go.Deep
set_option maxRecDepth 20000

set_option maxRecDepth 100000 in
theorem open_nodes {H : Type} {enc : TypeId × Value → H} {W : World} {base : Nat} {v : Value} {d : DataW H} {ps : List MemPlace}
    (hok : Value.okWide Tryz.prog W .any base 22 v) (h : DataW.Trod enc Tryz.prog W 0 (fun _ => true) true 22 v d ps) :
    ∃ l, Recs W v l := by
  obtain ⟨a0, len, cap, rfl⟩ := okWide_slice Tryz.underlying22 hok
  obtain ⟨fuel, hf⟩ := h
  obtain ⟨v, l, hcs, hr, _⟩ := recs_of_trod Tryz.underlying22 Tryz.underlying74 (by kernel_rfl) ⟨rfl, rfl⟩ Tryz.underlying36 (by kernel_rfl) ⟨rfl, rfl⟩ Tryz.underlying23 (by kernel_rfl) Tryz.underlying21 (by kernel_rfl) hf
  simp [Value.cells] at hcs
  subst hcs
  exact ⟨l, hr⟩

end Go.Proofs.YtpjbkaibgajpcaaGreat
