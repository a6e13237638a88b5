/-
  walk's laws: lay.
-/
import Derived.Test.YtjnkiloomdeljaaJ46
import Derived.Test.YtjnkiloomdeljaaJ16
import Derived.Test.YtjnkiloomdeljaaJ14
import Derived.Deep.CutBlock
import Derived.Deep.DeepCutAuto
namespace Go.Proofs.Ytjnkiloomdeljaa
open Go.RowKit Go.ChangeMaps

def layS (s : List Int × List Hz) (h : Hz) : List Int × List Hz := if h.id ∈ s.1 then s else (putZ s.1 h.id, s.2 ++ [hitK h.id h.dist])
def layN (l : List Hz) : List Int × List Hz := (l.take 30).foldl layS ([], [])
def layE (N : List Int) (es : List (Int × Int)) : Eg := (es.take 100).foldl (fun E e => (linkD N E e.1 e.2).2) []

/-- pairs of nodes, as they lie -/
def PairsA (w : World) (v : Value) (es : List (Int × Int)) : Prop :=
  ∃ ep ec, v = .slice ep es.length ec ∧ es.length ≤ 9223372036854775807 ∧ ∀ i (hi : i < es.length), ∃ b off, ep = some ⟨b, off, none⟩ ∧ w.cell? ⟨b, off + i * 2, none⟩ = some (.int .u64 es[i].1) ∧ w.cell? ⟨b, off + i * 2 + 1, none⟩ = some (.int .u64 es[i].2)

theorem PairsA.below {w w' : World} {v : Value} {es : List (Int × Int)} (h : PairsA w v es) (hb : Below w.heap.size w w') : PairsA w' v es := by
  obtain ⟨ep, ec, e, h1, h2⟩ := h
  exact ⟨ep, ec, e, h1, fun i hi => by obtain ⟨b, off, e2, h3, h4⟩ := h2 i hi; exact ⟨b, off, e2, below_cells hb h3, below_cells hb h4⟩⟩

theorem heapThree (w : World) (a b c : Obj) : (((w.alloc a).alloc b).alloc c).heap[w.heap.size]? = some a ∧ (((w.alloc a).alloc b).alloc c).heap[w.heap.size + 1]? = some b ∧ (((w.alloc a).alloc b).alloc c).heap[w.heap.size + 2]? = some c := by
  have h := heapTwo w a b
  refine ⟨?_, ?_, ?_⟩
  · rw [heap_alloc_old _ _ (by simp; omega)]; exact h.1
  · rw [heap_alloc_old _ _ (by simp)]; exact h.2
  · have := heap_alloc_new ((w.alloc a).alloc b) c
    simpa using this

theorem layN_le (l : List Hz) (k : Nat) : ((l.take k).foldl layS ([], [])).1.length ≤ k ∧ ((l.take k).foldl layS ([], [])).2.length ≤ k := by
  induction k with
  | zero => simp
  | succ k ih =>
    by_cases hk : k < l.length
    · rw [List.take_succ_eq_append_getElem hk, List.foldl_append]
      generalize (l.take k).foldl layS ([], []) = s at ih
      simp only [List.foldl_cons, List.foldl_nil, layS]
      split
      · omega
      · simp only [putZ_length, List.length_append, List.length_singleton]; omega
    · rw [List.take_of_length_le (by omega)]
      rw [List.take_of_length_le (by omega)] at ih
      omega

theorem layS_snoc (l : List Hz) (j : Nat) (hj : j < l.length) : (l.take (j + 1)).foldl layS ([], []) = layS ((l.take j).foldl layS ([], [])) l[j] := by
  rw [List.take_succ_eq_append_getElem hj, List.foldl_append]
  rfl

theorem linkD_lenW (N : List Int) (E : Eg) (a b : Int) : (linkD N E a b).2.length ≤ E.length + 1 := by
  unfold linkD
  split
  · exact Nat.le_succ _
  · split
    · simp
    · exact Nat.le_succ _

theorem layE_step (N : List Int) (es : List (Int × Int)) (j : Nat) (hj : j < es.length) : layE N (es.take (j + 1)) = if j < 100 then (linkD N (layE N (es.take j)) es[j].1 es[j].2).2 else layE N (es.take j) := by
  unfold layE
  split
  · rw [List.take_take, List.take_take, Nat.min_eq_right (by omega), Nat.min_eq_right (by omega), List.take_succ_eq_append_getElem hj, List.foldl_append]
    rfl
  · rw [List.take_take, List.take_take, Nat.min_eq_left (by omega), Nat.min_eq_left (by omega)]

theorem layE_len (N : List Int) (es : List (Int × Int)) : (layE N es).length ≤ 100 := by
  have : ∀ (es : List (Int × Int)) (E : Eg), (es.foldl (fun E e => (linkD N E e.1 e.2).2) E).length ≤ E.length + es.length := by
    intro es
    induction es with
    | nil => intro E; simp
    | cons e es ih =>
      intro E
      have h1 := ih (linkD N E e.1 e.2).2
      have h2 := linkD_lenW N E e.1 e.2
      simp only [List.foldl_cons, List.length_cons]
      omega
  have h := this (es.take 100) []
  have h2 := List.length_take_le 100 es
  simp only [List.length_nil] at h
  unfold layE
  omega

set_option maxRecDepth 100000 in
set_option maxHeartbeats 16000000 in
theorem lawLay (w0 : World) (F : Nat → Prop) (l : List Hz) (v : Value) (h : HitsF w0 F v l) (es : List (Int × Int)) (ev : Value) (he : PairsA w0 ev es) :
    Calls Try.prog 9 #[v, ev] w0 fun e w' => ∃ f x p m c Q lv, e = .returned (.pointer (some ⟨f, 0, none⟩)) ∧ Fld w0 w' f x p m c Q (layN l).1 (layE (layN l).1 es) lv (layN l).2 := by
  obtain ⟨NN, hNN⟩ : ∃ N, N = (layN l).1 := ⟨_, rfl⟩
  obtain ⟨LL, hLL⟩ : ∃ L, L = (layN l).2 := ⟨_, rfl⟩
  rw [← hNN, ← hLL]
  have HNL := Lib.hid (And.intro hNN hLL)
  clear hNN hLL
  obtain ⟨lp, lc, rfl, hlc1, hlc2, -, -⟩ := id h
  obtain ⟨ep, ec, rfl, hel, -⟩ := id he
  have HL := Lib.hid h
  have HE := Lib.hid he
  have hll : l.length ≤ 9223372036854775807 := by omega
  have cN := Lib.hid (GP.new w0 [] [] (.slice none 0 0) (nums_none w0) (fun h => absurd h (by simp)) (by simp) List.Pairwise.nil (fun _ => Iff.rfl))
  clear h he hlc1 hlc2
  go_enter Try.func9, Try.ntmps9
  go_upto_region 2 with (go_at_call 20; (with_reducible refine cN.out.mono ?_); rintro e w1 ⟨p, m, Q, rfl, hG, hb1⟩; have G1 := Lib.hid hG; have B1 := Lib.hid hb1; clear hG hb1)
  obtain ⟨W1, hW1⟩ : ∃ W1, W1 = ((w1.alloc (.cells #[.slice none 0 0, .slice none 0 0] 60)).alloc (.cells #[.pointer (some ⟨w1.heap.size, 0, none⟩), .slice none 0 0] 50)).alloc (.cells #[.pointer (some ⟨p, 0, none⟩), .pointer (some ⟨w1.heap.size + 1, 0, none⟩)] 34) := ⟨_, rfl⟩
  have hh := heapThree w1 (.cells #[.slice none 0 0, .slice none 0 0] 60) (.cells #[.pointer (some ⟨w1.heap.size, 0, none⟩), .slice none 0 0] 50) (.cells #[.pointer (some ⟨p, 0, none⟩), .pointer (some ⟨w1.heap.size + 1, 0, none⟩)] 34)
  rw [← hW1] at hh
  have hb2 : Below w1.heap.size w1 W1 := by rw [hW1]; exact (((Below.refl _ w1).alloc (Nat.le_refl _) _).alloc (by simp) _).alloc (by simp; omega) _
  have hsz := B1.out.size
  have hFld : Fld w0 W1 (w1.heap.size + 2) (w1.heap.size + 1) p m w1.heap.size Q [] [] (.slice none 0 0) [] := by
    have g2 := G1.out.below hb2
    exact ⟨hh.2.2, hh.2.1, ⟨g2.g, ⟨_, _, ⟨hh.1, World.ownsRow_nil _ _ _ _, World.ownsRow_nil _ _ _ _, hsz⟩⟩, g2.rel, g2.low, g2.big⟩, World.ownsRow_nil _ _ _ _, ⟨by omega, by omega⟩, B1.out.trans (hb2.mono hsz)⟩
  rw [← hW1]
  obtain ⟨f, hf⟩ : ∃ f, f = w1.heap.size + 2 := ⟨_, rfl⟩
  obtain ⟨x, hx⟩ : ∃ x, x = w1.heap.size + 1 := ⟨_, rfl⟩
  obtain ⟨c, hc⟩ : ∃ c, c = w1.heap.size := ⟨_, rfl⟩
  rw [← hf, ← hx, ← hc] at hFld
  rw [← hf]
  have F1 := Lib.hid hFld
  clear hW1 hh hb2 hsz hFld hf hx hc
  go_upto_block 0 with fail
  go_cut [19] (fun s wc => ∃ Q lv, Fld w0 wc f x p m c Q NN [] lv LL)
  case first =>
    go_wp2_with fail
    go_loopg [19] l.length (fun q i wr => ∃ (j : Nat) (Q : Gr) (lv : Value), q = l.length - j ∧ j ≤ l.length ∧ j ≤ 30 ∧ i = .int .i64 j ∧ Fld w0 wr f x p m c Q ((l.take j).foldl layS ([], [])).1 [] lv ((l.take j).foldl layS ([], [])).2)
    case atStart => exact ⟨0, Q, _, rfl, by omega, by omega, rfl, F1.out⟩
    case round =>
      obtain ⟨j, Q, lv, rfl, hj, hj30, rfl, hFr⟩ := hrel
      by_cases hlt : j < l.length
      · obtain ⟨rs2, -, -, hel2⟩ := HL.out.rows
        obtain ⟨bb, ob, up, uc, -, rfl, -, -, e0, e1, e2, -, -⟩ := hel2 j hlt
        replace e0 := below_cells hFr.old e0
        replace e1 := below_cells hFr.old e1
        replace e2 := below_cells hFr.old e2
        have SN := Lib.hid (layS_snoc l j hlt)
        have hle := layN_le l j
        have LAYN := Lib.hid (show j = 30 → (l.take j).foldl layS ([], []) = layN l from fun e => by rw [e]; rfl)
        obtain ⟨y, hy⟩ : ∃ y, y = l[j] := ⟨_, rfl⟩
        obtain ⟨s, hs⟩ : ∃ s, s = (l.take j).foldl layS ([], []) := ⟨_, rfl⟩
        rw [← hy] at e0 e1 e2 SN
        rw [← hs] at hFr SN hle LAYN
        obtain ⟨nv, hnv⟩ : ∃ v, v = y.vec.length := ⟨_, rfl⟩
        rw [← hnv] at e2
        obtain ⟨N, L⟩ := s
        simp only at hFr hle
        have FR := Lib.hid hFr
        clear hy hs hnv hel2 hFr
        by_cases h30 : j = 30
        · have FD := Lib.hid (show Fld w0 wr f x p m c Q NN [] lv LL from by rw [HNL.out.1, HNL.out.2, ← LAYN.out h30]; exact FR.out)
          have h30' : (30 : Int) ≤ (j : Int) := by omega
          clear h30
          go_wp2_with fail
          go_meet
          exact ⟨_, _, FD.out.below ((Below.refl _ _).alloc (Nat.le_refl _) _)⟩
        · have h30' : ¬ (30 : Int) ≤ (j : Int) := by omega
          obtain ⟨W2, hW2⟩ : ∃ W2, W2 = (wr.alloc (.cells #[.int .u64 y.id, .int .u64 y.dist, .slice up nv uc] 43)).drew := ⟨_, rfl⟩
          have hb2 : Below wr.heap.size wr W2 := by rw [hW2]; exact ((Below.refl _ _).alloc (Nat.le_refl _) _).drew
          have y2 : W2.heap[wr.heap.size]? = some (.cells #[.int .u64 y.id, .int .u64 y.dist, .slice up nv uc] 43 (0, 0)) := by rw [hW2]; exact heap_alloc_new _ _
          have F2 := Lib.hid (FR.out.below hb2)
          obtain ⟨g, hgq⟩ : ∃ g, g = wr.heap.size := ⟨_, rfl⟩
          have GW := Lib.hid hgq
          rw [← hgq] at y2
          have Y2 := Lib.hid y2
          have HW2 := Lib.hid hW2
          have I2 := Lib.hid (And.intro (cellsB F2.out.fcell 0) (cellsB y2 0))
          have hj30' : j < 30 := by omega
          clear h30 hW2 hb2 y2
          by_cases hx : y.id ∈ N
          · have SE := Lib.hid (show layS (N, L) y = (N, L) from by unfold layS; rw [if_pos hx])
            have cA := Lib.hid ((F2.out.gs.addOld hx).mono fun e w1 h => (⟨h.1, h.2 ▸ Below.refl _ _⟩ : e = _ ∧ Below W2.heap.size W2 w1))
            clear hx
            go_upto_region 6 with fail
            rw [← hgq]
            clear hgq
            refine region_go (fun w' => w'.cell? ⟨f, 0, none⟩ = some (.pointer (some ⟨p, 0, none⟩)) ∧ w'.cell? ⟨g, 0, none⟩ = some (.int .u64 y.id)) (by kernel_rfl) ?hS0 (fun hH => ?_)
            case hS0 =>
              rw [← HW2.out]; exact I2.out
            rw [← HW2.out] at hH ⊢
            refine kY 0 hH ?_
            repeat simp only [Act.put, uA1, uB1, uC1]
            refine kY 1 hH ?_
            repeat simp only [Act.put, uA1, uB1, uC1]
            refine kY 2 hH ?_
            repeat simp only [Act.put, uA1, uB1, uC1]
            refine kY 3 hH ?_
            repeat simp only [Act.put, uA1, uB1, uC1]
            refine kY 4 hH ?_
            repeat simp only [Act.put, uA1, uB1, uC1]
            refine kY 5 hH ?_
            repeat simp only [Act.put, uA1, uB1, uC1]
            refine spk 6 rfl (by decide +kernel) (by rfl) (fun K' hK => ?_)
            go_simp
            with_reducible refine cA.out.mono ?_
            rintro e w3 ⟨rfl, hb3⟩
            try dsimp only
            refine hK.out _ _ ?hS (fun hH' => ?_)
            case hS =>
              exact ⟨below_cells hb3 hH.1, below_cells hb3 hH.2⟩
            clear hK K' hH; have hH := hH'; clear hH'; repeat simp only [Act.put, uA1, uB1, uC1]
            refine kY 7 hH ?_
            repeat simp only [Act.put, uA1, uB1, uC1]
            refine wpAnyH_done (by decide +kernel) ?_ _
            have F3 := Lib.hid (F2.out.below hb3)
            clear hH hb3
            go_wp2_with fail
            go_roundg (l.length - (j + 1))
            case measure => omega
            case rel => exact ⟨j + 1, Q, lv, rfl, by omega, by omega, by go_num, by rw [SN.out, SE.out]; exact F3.out⟩
          · have SE := Lib.hid (show layS (N, L) y = (putZ N y.id, L ++ [hitK y.id y.dist]) from by unfold layS; rw [if_neg hx])
            have cA := Lib.hid (F2.out.gs.addNew (by omega) hx)
            clear hx
            go_upto_region 6 with fail
            rw [← hgq]
            clear hgq
            refine region_go (fun w' => w'.cell? ⟨f, 0, none⟩ = some (.pointer (some ⟨p, 0, none⟩)) ∧ w'.cell? ⟨g, 0, none⟩ = some (.int .u64 y.id)) (by kernel_rfl) ?hS0 (fun hH => ?_)
            case hS0 =>
              rw [← HW2.out]; exact I2.out
            rw [← HW2.out] at hH ⊢
            refine kY 0 hH ?_
            repeat simp only [Act.put, uA1, uB1, uC1]
            refine kY 1 hH ?_
            repeat simp only [Act.put, uA1, uB1, uC1]
            refine kY 2 hH ?_
            repeat simp only [Act.put, uA1, uB1, uC1]
            refine kY 3 hH ?_
            repeat simp only [Act.put, uA1, uB1, uC1]
            refine kY 4 hH ?_
            repeat simp only [Act.put, uA1, uB1, uC1]
            refine kY 5 hH ?_
            repeat simp only [Act.put, uA1, uB1, uC1]
            refine spk 6 rfl (by decide +kernel) (by rfl) (fun K' hK => ?_)
            go_simp
            with_reducible refine cA.out.mono ?_
            rintro e w3 ⟨rfl, hm3, hc3⟩
            try dsimp only
            refine hK.out _ _ ?hS (fun hH' => ?_)
            case hS =>
              exact ⟨cellsB (hm3.box F2.out.fcell (by decide) (by decide)) 0, cellsB (hm3.box Y2.out (by decide) (by decide)) 0⟩
            clear hK K' hH; have hH := hH'; clear hH'; repeat simp only [Act.put, uA1, uB1, uC1]
            refine kY 7 hH ?_
            repeat simp only [Act.put, uA1, uB1, uC1]
            refine wpAnyH_done (by decide +kernel) ?_ _
            have M3 := Lib.hid hm3
            have C3 := Lib.hid hc3
            clear hH hm3 hc3
            obtain ⟨W4, hW4⟩ : ∃ W4, W4 = w3.drew := ⟨_, rfl⟩
            have hb4 : Below w3.heap.size w3 W4 := by rw [hW4]; exact (Below.refl _ _).drew
            have cD := Lib.hid (C3.out W4 hb4)
            have M4 := Lib.hid (M3.out.andBelow hb4)
            have I4 := Lib.hid (And.intro (cellsB (M4.out.box F2.out.fcell (by decide) (by decide)) 1) (And.intro (cellsB (M4.out.box F2.out.xcell (by decide) (by decide)) 0) (cellsB (M4.out.box Y2.out (by decide) (by decide)) 0)))
            have HW4 := Lib.hid hW4
            clear hW4 hb4
            go_upto_region 7 with fail
            refine region_go (fun w' => w'.cell? ⟨f, 1, none⟩ = some (.pointer (some ⟨x, 0, none⟩)) ∧ w'.cell? ⟨x, 0, none⟩ = some (.pointer (some ⟨c, 0, none⟩)) ∧ w'.cell? ⟨g, 0, none⟩ = some (.int .u64 y.id)) (by kernel_rfl) ?hS0 (fun hH => ?_)
            case hS0 =>
              rw [← HW4.out]; exact I4.out
            rw [← HW4.out] at hH ⊢
            refine kY 0 hH ?_
            repeat simp only [Act.put, uA1, uB1, uC1]
            refine kY 1 hH ?_
            repeat simp only [Act.put, uA1, uB1, uC1]
            refine kY 2 hH ?_
            repeat simp only [Act.put, uA1, uB1, uC1]
            refine kY 3 hH ?_
            repeat simp only [Act.put, uA1, uB1, uC1]
            refine kY 4 hH ?_
            repeat simp only [Act.put, uA1, uB1, uC1]
            refine kY 5 hH ?_
            repeat simp only [Act.put, uA1, uB1, uC1]
            refine kY 6 hH ?_
            repeat simp only [Act.put, uA1, uB1, uC1]
            refine kY 7 hH ?_
            repeat simp only [Act.put, uA1, uB1, uC1]
            refine kY 8 hH ?_
            repeat simp only [Act.put, uA1, uB1, uC1]
            refine spk 9 rfl (by decide +kernel) (by rfl) (fun K' hK => ?_)
            go_simp
            with_reducible refine cD.out.mono ?_
            rintro e w5 ⟨rfl, ⟨Q5, gs5⟩, hm5⟩
            try dsimp only
            refine hK.out _ _ ?hS (fun hH' => ?_)
            case hS =>
              exact ⟨cellsB (hm5.box F2.out.fcell (by decide) (by decide)) 1, cellsB (hm5.box F2.out.xcell (by decide) (by decide)) 0, cellsB (hm5.box Y2.out (by decide) (by decide)) 0⟩
            clear hK K' hH; have hH := hH'; clear hH'; repeat simp only [Act.put, uA1, uB1, uC1]
            refine wpAnyH_done (by decide +kernel) ?_ _
            have F5 := Lib.hid (F2.out.turn hm5 gs5)
            have Y5 := Lib.hid (hm5.box Y2.out (by decide) (by decide))
            clear hH hm5 gs5
            obtain ⟨W6, hW6⟩ : ∃ W6, W6 = w5.drew := ⟨_, rfl⟩
            have hb6 : Below w5.heap.size w5 W6 := by rw [hW6]; exact (Below.refl _ _).drew
            have F6 := Lib.hid (F5.out.below hb6)
            have y6 := (hb6.block g (lt_block Y5.out)).trans Y5.out
            obtain ⟨g9, cp9, w9, hrun9, hF9, hf9, hx9, hk9⟩ := F6.out.push y.id y.dist (by omega)
            have hne : lv.ownBlock ≠ some g := fun e => by
              have h4 := (FR.out.row.lt g e).2
              have h5 := GW.out
              omega
            have I6 := Lib.hid (show W6.cell? ⟨f, 1, none⟩ = some (.pointer (some ⟨x, 0, none⟩)) ∧ W6.cell? ⟨x, 1, none⟩ = some lv ∧ W6.cell? ⟨g, 0, none⟩ = some (.int .u64 y.id) ∧ W6.cell? ⟨g, 1, none⟩ = some (.int .u64 y.dist) from ⟨cellsB F6.out.fcell 1, cellsB F6.out.xcell 1, cellsB y6 0, cellsB y6 1⟩)
            have ba : Below W6.heap.size W6 (W6.alloc (.cells #[.int .u64 y.id, .int .u64 y.dist, .slice none 0 0] 43)) := (Below.refl _ W6).alloc (Nat.le_refl _) _
            have I7 := Lib.hid (And.intro (below_cells ba I6.out.1) (And.intro (below_cells ba I6.out.2.1) (And.intro (below_cells ba I6.out.2.2.1) (below_cells ba I6.out.2.2.2))))
            have y9 := (hk9 g (lt_block y6) hne).trans y6
            have I8 := Lib.hid (show w9.cell? ⟨f, 1, none⟩ = some (.pointer (some ⟨x, 0, none⟩)) ∧ w9.cell? ⟨x, 1, none⟩ = some lv ∧ w9.cell? ⟨g, 0, none⟩ = some (.int .u64 y.id) ∧ w9.cell? ⟨g, 1, none⟩ = some (.int .u64 y.dist) from ⟨cellsB (hf9.trans F6.out.fcell) 1, cellsB (hx9.trans F6.out.xcell) 1, cellsB y9 0, cellsB y9 1⟩)
            have z9 : w9.frozen? ⟨x, 1, none⟩ = false := by simp [World.frozen?, hx9.trans F6.out.xcell]
            have x9 := I8.out.2.1
            have F9 := Lib.hid hF9
            have HW6 := Lib.hid hW6
            clear hW6 hb6 y6 hne ba y9 hF9 hf9 hx9 hk9
            go_upto_region 8 with fail
            refine region_goN 20 (fun w' => w'.cell? ⟨f, 1, none⟩ = some (.pointer (some ⟨x, 0, none⟩)) ∧ w'.cell? ⟨x, 1, none⟩ = some lv ∧ w'.cell? ⟨g, 0, none⟩ = some (.int .u64 y.id) ∧ w'.cell? ⟨g, 1, none⟩ = some (.int .u64 y.dist)) (by kernel_rfl) ?hS0 (fun hH => ?_)
            case hS0 =>
              rw [← HW6.out]; exact I6.out
            rw [← HW6.out] at hH ⊢
            refine kYN 0 hH ?_
            repeat simp only [Act.put, uA1, uB1, uC1]
            refine kYN 1 hH ?_
            repeat simp only [Act.put, uA1, uB1, uC1]
            refine kYN 2 hH ?_
            repeat simp only [Act.put, uA1, uB1, uC1]
            refine kYN 3 hH ?_
            repeat simp only [Act.put, uA1, uB1, uC1]
            refine kYN 4 hH ?_
            repeat simp only [Act.put, uA1, uB1, uC1]
            refine kYN 5 hH ?_
            repeat simp only [Act.put, uA1, uB1, uC1]
            refine kYN 6 hH ?_
            repeat simp only [Act.put, uA1, uB1, uC1]
            refine kYN 7 hH ?_
            repeat simp only [Act.put, uA1, uB1, uC1]
            refine kYN 8 hH ?_
            repeat simp only [Act.put, uA1, uB1, uC1]
            refine kYN 9 hH ?_
            repeat simp only [Act.put, uA1, uB1, uC1]
            refine kYN 10 hH ?_
            repeat simp only [Act.put, uA1, uB1, uC1]
            refine kYN 11 hH ?_
            repeat simp only [Act.put, uA1, uB1, uC1]
            refine kYN 12 hH ?_
            repeat simp only [Act.put, uA1, uB1, uC1]
            refine kYN 13 hH ?_
            repeat simp only [Act.put, uA1, uB1, uC1]
            refine kYN 14 hH ?_
            repeat simp only [Act.put, uA1, uB1, uC1]
            refine kYN 15 hH ?_
            repeat simp only [Act.put, uA1, uB1, uC1]
            refine spkN 16 rfl (by decide) (by decide +kernel) (by rfl) (fun K' hK => ?_)
            go_simp
            try dsimp only
            refine hK.out _ _ ?hS (fun hH' => ?_)
            case hS =>
              exact I7.out
            clear hK K' hH; have hH := hH'; clear hH'; repeat simp only [Act.put, uA1, uB1, uC1]
            refine spkN 17 rfl (by decide) (by decide +kernel) (by rfl) (fun K' hK => ?_)
            with_reducible refine wp_append_eq hrun9 _ _ rfl rfl rfl ?_
            try dsimp only
            refine hK.out _ _ ?hS (fun hH' => ?_)
            case hS =>
              exact I8.out
            clear hK K' hH; have hH := hH'; clear hH'; repeat simp only [Act.put, uA1, uB1, uC1]
            refine spkN 18 rfl (by decide) (by decide +kernel) (by rfl) (fun K' hK => ?_)
            go_simp
            try dsimp only
            refine hK.out _ _ ?hS (fun hH' => ?_)
            case hS =>
              exact hH
            clear hK K' hH; have hH := hH'; clear hH'; repeat simp only [Act.put, uA1, uB1, uC1]
            refine kYN 19 hH ?_
            repeat simp only [Act.put, uA1, uB1, uC1]
            refine spkL rfl (by decide +kernel) (by rfl) (fun K' hK => ?_)
            go_simp
            try dsimp only
            refine hK.out _ _ ?_
            clear hK K' hH; repeat simp only [Act.put, uA1, uB1, uC1]
            refine anyBut_done (by decide +kernel) ?_ _
            go_wp2_with fail
            go_roundg (l.length - (j + 1))
            case measure => omega
            case rel => exact ⟨j + 1, Q5, _, rfl, by omega, by omega, by go_num, by rw [SN.out, SE.out]; exact F9.out⟩
      · obtain rfl : j = l.length := by omega
        have FD := Lib.hid (show Fld w0 wr f x p m c Q NN [] lv LL from by
          rw [HNL.out.1, HNL.out.2]
          unfold layN
          rw [List.take_of_length_le hj30]
          rw [List.take_length] at hFr
          exact hFr)
        clear hFr
        go_wp2_with fail
        go_meet
        exact ⟨_, _, FD.out⟩
  case rest =>
    obtain ⟨Q, lv, hF⟩ := hcut
    have F2 := Lib.hid hF
    clear hF
    go_wp2_with fail
    go_loopg [67] es.length (fun q i wr => ∃ (j : Nat) (Q : Gr), q = es.length - j ∧ j ≤ es.length ∧ i = .int .i64 j ∧ Fld w0 wr f x p m c Q NN (layE NN (es.take j)) lv LL)
    case atStart => exact ⟨0, Q, rfl, by omega, rfl, F2.out⟩
    case round =>
      obtain ⟨j, Q, rfl, hj, rfl, hFr⟩ := hrel
      by_cases hlt : j < es.length
      · obtain ⟨ep2, ec2, hep, -, hel2⟩ := HE.out
        obtain ⟨bb, ob, hb0, e0, e1⟩ := hel2 j hlt
        obtain ⟨rfl, -, rfl⟩ := Value.slice.inj hep
        subst hb0
        replace e0 := below_cells hFr.old e0
        replace e1 := below_cells hFr.old e1
        have SN := Lib.hid (layE_step NN es j hlt)
        have hle := layE_len NN (es.take j)
        obtain ⟨a, ha⟩ : ∃ y, y = es[j].1 := ⟨_, rfl⟩
        obtain ⟨b, hb⟩ : ∃ y, y = es[j].2 := ⟨_, rfl⟩
        obtain ⟨E, hE⟩ : ∃ s, s = layE NN (es.take j) := ⟨_, rfl⟩
        rw [← ha] at e0 SN
        rw [← hb] at e1 SN
        rw [← hE] at hFr SN hle
        have FR := Lib.hid hFr
        clear ha hb hE hel2 hFr hep
        by_cases h100 : j < 100
        · have h100' : (j : Int) < 100 := by omega
          rw [if_pos h100] at SN
          obtain ⟨W2, hW2⟩ : ∃ W2, W2 = (wr.alloc (.cells #[.int .u64 a, .int .u64 b] 56)).drew := ⟨_, rfl⟩
          have hb2 : Below wr.heap.size wr W2 := by rw [hW2]; exact ((Below.refl _ _).alloc (Nat.le_refl _) _).drew
          have y2 : W2.heap[wr.heap.size]? = some (.cells #[.int .u64 a, .int .u64 b] 56 (0, 0)) := by rw [hW2]; exact heap_alloc_new _ _
          have F2 := Lib.hid (FR.out.below hb2)
          obtain ⟨g, hgq⟩ : ∃ g, g = wr.heap.size := ⟨_, rfl⟩
          rw [← hgq] at y2
          have Y2 := Lib.hid y2
          have HW2 := Lib.hid hW2
          have I2 := Lib.hid (And.intro (cellsB F2.out.fcell 0) (And.intro (cellsB y2 0) (cellsB y2 1)))
          have cA := Lib.hid (F2.out.gs.linkTwo (by omega) a b)
          clear h100 hW2 hb2 y2
          go_upto_region 14 with fail
          rw [← hgq]
          clear hgq
          refine region_go (fun w' => w'.cell? ⟨f, 0, none⟩ = some (.pointer (some ⟨p, 0, none⟩)) ∧ w'.cell? ⟨g, 0, none⟩ = some (.int .u64 a) ∧ w'.cell? ⟨g, 1, none⟩ = some (.int .u64 b)) (by kernel_rfl) ?hS0 (fun hH => ?_)
          case hS0 =>
            rw [← HW2.out]; exact I2.out
          rw [← HW2.out] at hH ⊢
          refine kY 0 hH ?_
          repeat simp only [Act.put, uA1, uB1, uC1]
          refine kY 1 hH ?_
          repeat simp only [Act.put, uA1, uB1, uC1]
          refine kY 2 hH ?_
          repeat simp only [Act.put, uA1, uB1, uC1]
          refine kY 3 hH ?_
          repeat simp only [Act.put, uA1, uB1, uC1]
          refine kY 4 hH ?_
          repeat simp only [Act.put, uA1, uB1, uC1]
          refine kY 5 hH ?_
          repeat simp only [Act.put, uA1, uB1, uC1]
          refine kY 6 hH ?_
          repeat simp only [Act.put, uA1, uB1, uC1]
          refine kY 7 hH ?_
          repeat simp only [Act.put, uA1, uB1, uC1]
          refine spk 8 rfl (by decide +kernel) (by rfl) (fun K' hK => ?_)
          go_simp
          with_reducible refine cA.out.mono ?_
          rintro e w3 ⟨rfl, hm3, hc3⟩
          try dsimp only
          refine hK.out _ _ ?hS (fun hH' => ?_)
          case hS =>
            exact ⟨cellsB (hm3.box F2.out.fcell (by decide) (by decide)) 0, cellsB (hm3.box Y2.out (by decide) (by decide)) 0, cellsB (hm3.box Y2.out (by decide) (by decide)) 1⟩
          clear hK K' hH; have hH := hH'; clear hH'; repeat simp only [Act.put, uA1, uB1, uC1]
          refine wpAnyH_done (by decide +kernel) ?_ _
          have M3 := Lib.hid hm3
          have C3 := Lib.hid hc3
          clear hH hm3 hc3
          obtain ⟨W4, hW4⟩ : ∃ W4, W4 = w3.drew := ⟨_, rfl⟩
          have hb4 : Below w3.heap.size w3 W4 := by rw [hW4]; exact (Below.refl _ _).drew
          have cD := Lib.hid (C3.out W4 hb4)
          have M4 := Lib.hid (M3.out.andBelow hb4)
          have y4 := M4.out.box Y2.out (by decide) (by decide)
          have I4 := Lib.hid (And.intro (cellsB (M4.out.box F2.out.fcell (by decide) (by decide)) 1) (And.intro (cellsB (M4.out.box F2.out.xcell (by decide) (by decide)) 0) (And.intro (cellsB y4 0) (cellsB y4 1))))
          have HW4 := Lib.hid hW4
          clear hW4 hb4 y4
          go_upto_region 15 with fail
          refine region_go (fun w' => w'.cell? ⟨f, 1, none⟩ = some (.pointer (some ⟨x, 0, none⟩)) ∧ w'.cell? ⟨x, 0, none⟩ = some (.pointer (some ⟨c, 0, none⟩)) ∧ w'.cell? ⟨g, 0, none⟩ = some (.int .u64 a) ∧ w'.cell? ⟨g, 1, none⟩ = some (.int .u64 b)) (by kernel_rfl) ?hS0 (fun hH => ?_)
          case hS0 =>
            rw [← HW4.out]; exact I4.out
          rw [← HW4.out] at hH ⊢
          refine kY 0 hH ?_
          repeat simp only [Act.put, uA1, uB1, uC1]
          refine kY 1 hH ?_
          repeat simp only [Act.put, uA1, uB1, uC1]
          refine kY 2 hH ?_
          repeat simp only [Act.put, uA1, uB1, uC1]
          refine kY 3 hH ?_
          repeat simp only [Act.put, uA1, uB1, uC1]
          refine kY 4 hH ?_
          repeat simp only [Act.put, uA1, uB1, uC1]
          refine kY 5 hH ?_
          repeat simp only [Act.put, uA1, uB1, uC1]
          refine kY 6 hH ?_
          repeat simp only [Act.put, uA1, uB1, uC1]
          refine kY 7 hH ?_
          repeat simp only [Act.put, uA1, uB1, uC1]
          refine kY 8 hH ?_
          repeat simp only [Act.put, uA1, uB1, uC1]
          refine kY 9 hH ?_
          repeat simp only [Act.put, uA1, uB1, uC1]
          refine kY 10 hH ?_
          repeat simp only [Act.put, uA1, uB1, uC1]
          refine spk 11 rfl (by decide +kernel) (by rfl) (fun K' hK => ?_)
          go_simp
          with_reducible refine cD.out.mono ?_
          rintro e w5 ⟨rfl, ⟨Q5, gs5⟩, hm5⟩
          try dsimp only
          refine hK.out _ _ ?hS (fun hH' => ?_)
          case hS =>
            exact ⟨cellsB (hm5.box F2.out.fcell (by decide) (by decide)) 1, cellsB (hm5.box F2.out.xcell (by decide) (by decide)) 0, cellsB (hm5.box Y2.out (by decide) (by decide)) 0, cellsB (hm5.box Y2.out (by decide) (by decide)) 1⟩
          clear hK K' hH; have hH := hH'; clear hH'; repeat simp only [Act.put, uA1, uB1, uC1]
          refine wpAnyH_done (by decide +kernel) ?_ _
          have F5 := Lib.hid (F2.out.turn hm5 gs5)
          clear hH hm5 gs5
          go_wp2_with fail
          go_roundg (es.length - (j + 1))
          case measure => omega
          case rel => exact ⟨j + 1, Q5, rfl, by omega, by go_num, by rw [SN.out]; exact F5.out⟩
        · have h100' : ¬ (j : Int) < 100 := by omega
          rw [if_neg h100] at SN
          clear h100
          go_wp2_with fail
          go_roundg (es.length - (j + 1))
          case measure => omega
          case rel => exact ⟨j + 1, Q, rfl, by omega, by go_num, by rw [SN.out]; exact FR.out.below ((Below.refl _ _).alloc (Nat.le_refl _) _)⟩
      · obtain rfl : j = es.length := by omega
        rw [List.take_length] at hFr
        have FR := Lib.hid hFr
        clear hFr
        go_wp2_with fail
        go_ret
        exact ⟨f, x, p, m, c, Q, lv, rfl, FR.out⟩

end Go.Proofs.Ytjnkiloomdeljaa
