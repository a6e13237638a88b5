/- maze's laws: lay. -/
import Derived.Test.YtpjbkaibgajpcaaGreatJ42
import Derived.Test.YtpjbkaibgajpcaaGreatJ01
import Derived.Deep.CutBlock
import Derived.Deep.DeepCutAuto
namespace Go.Proofs.YtpjbkaibgajpcaaGreat
open Go.RowKit Go.ChangeMaps
set_option maxRecDepth 20000

def layM (dim : Int) (l : List (Int × List Int)) (n : Nat) : Mz := (l.take n).foldl (fun s y => (putM dim s y.1 (y.2.take 10)).2) emptyM

theorem layM_step (dim : Int) (l : List (Int × List Int)) (j : Nat) (hj : j < l.length) : layM dim l (j + 1) = (putM dim (layM dim l j) l[j].1 (l[j].2.take 10)).2 := by
  unfold layM
  rw [List.take_succ_eq_append_getElem hj, List.foldl_append]
  rfl

theorem layM_ok (dim : Int) (l : List (Int × List Int)) (n : Nat) : OkM dim (layM dim l n) := by
  unfold layM
  have : ∀ (l : List (Int × List Int)) (s : Mz), OkM dim s → OkM dim (l.foldl (fun s y => (putM dim s y.1 (y.2.take 10)).2) s) := by
    intro l
    induction l with
    | nil => intro s h; exact h
    | cons y l ih => intro s h; exact ih _ (h.put _ _)
  exact this _ _ (OkM.empty dim)

theorem put_len (dim : Int) (s : Mz) (k : Int) (v : List Int) : (putM dim s k v).2.L.length ≤ s.L.length + 1 := by
  unfold putM
  split
  · exact Nat.le_succ _
  · split
    · exact Nat.le_succ _
    · simp [newM]

theorem layM_len (dim : Int) (l : List (Int × List Int)) (n : Nat) : (layM dim l n).L.length ≤ n := by
  induction n with
  | zero => simp [layM, emptyM]
  | succ n ih =>
    by_cases hn : n < l.length
    · rw [layM_step dim l n hn]
      have := put_len dim (layM dim l n) l[n].1 (l[n].2.take 10)
      omega
    · have : layM dim l (n + 1) = layM dim l n := by unfold layM; rw [List.take_of_length_le (by omega), List.take_of_length_le (by omega)]
      rw [this]; omega

section
variable {B : Nat} {w w' : World} {z p m mv x c : Nat} {Q : Gr} {dim en : Int} {VL : List (Int × Value)} {vn ve lv : Value} {rs : List Hv} {s : Mz}

theorem MzAt.valLt (h : MzAt B w z p m mv Q dim en VL s) {k : Int} {v : Value} {b : Nat} (hg : getK VL k = some v) (hb : v.ownBlock = some b) : b < w.heap.size := by
  by_cases hk : k ∈ s.L.map (fun h : Hz => h.id)
  · obtain ⟨y, hy, rfl⟩ := List.mem_map.1 hk
    obtain ⟨u, h1, h2⟩ := h.vals y hy
    rw [hg] at h1
    obtain rfl := Option.some.inj h1
    exact (h2.lt b hb).2
  · rw [h.missing k hk] at hg; cases hg

theorem MzAt.poke (h : MzAt B w z p m mv Q dim en VL s) {u : Value} (hm : Mod (fun j => u.ownBlock = some j) w w') (hu : ∀ j, u.ownBlock = some j → OfType w 21 j) (hne : ∀ k v b, getK VL k = some v → v.ownBlock = some b → u.ownBlock ≠ some b) : MzAt B w' z p m mv Q dim en VL s := by
  have no : ∀ T j, OfType w T j → T ≠ 21 → ¬ u.ownBlock = some j := fun T j ht hT hf => hT (ht.ne (hu j hf))
  have hmap : ∀ j, IsMap w j → w'.heap[j]? = w.heap[j]? := fun j hj => by
    obtain ⟨es, c, h1⟩ := id hj
    exact hm.block j (lt_block h1) fun hf => hj.no (hu j hf)
  refine ⟨(hm.block z (lt_block h.cell) (no _ z ⟨_, _, h.cell⟩ (by decide))).trans h.cell, ⟨⟨(hm.block p (lt_block h.gp.g.cell) (no _ p ⟨_, _, h.gp.g.cell⟩ (by decide))).trans h.gp.g.cell, h.gp.g.outer.kept (hmap m h.gp.g.outer.isMap), fun q hq => (h.gp.g.inner q hq).kept (hmap _ (h.gp.g.inner q hq).isMap), h.gp.g.apart⟩, h.gp.rel, h.gp.low, Nat.le_trans h.gp.big hm.size⟩, h.vecs.kept (hmap mv h.vecs.isMap), h.apart, fun y hy => ?_, h.missing, h.low⟩
  obtain ⟨v, h1, h2⟩ := h.vals y hy
  exact ⟨v, h1, own_agree h2 fun k hk => hm.block k (h2.lt k hk).2 (hne _ v k h1 hk)⟩

theorem RzAt.poke (h : RzAt B w x c dim vn ve lv rs s) {u : Value} (hm : Mod (fun j => u.ownBlock = some j) w w') (hu : ∀ j, u.ownBlock = some j → OfType w 21 j) (hne : ∀ r ∈ rs, ∀ b, r.vec.ownBlock = some b → u.ownBlock ≠ some b) : RzAt B w' x c dim vn ve lv rs s := by
  have no : ∀ T j, OfType w T j → T ≠ 21 → ¬ u.ownBlock = some j := fun T j ht hT hf => hT (ht.ne (hu j hf))
  refine ⟨(hm.block x (lt_block h.cell) (no _ x ⟨_, _, h.cell⟩ (by decide))).trans h.cell, h.doc.kept hm (fun j _ ht => no _ j ht (by decide)) (fun j _ ht => no _ j ht (by decide)) (fun j _ ht => no _ j ht (by decide)), own_agree h.row fun k hk => hm.block k (h.row.lt k hk).2 (no _ k (own_type h.row hk) (by decide)), ?_, h.low, Nat.le_trans h.big hm.size⟩
  exact ⟨h.held.len, fun i h1 h2 => ⟨(h.held.own i h1 h2).1, own_agree (h.held.own i h1 h2).2 fun k hk => hm.block k ((h.held.own i h1 h2).2.lt k hk).2 (hne _ (List.getElem_mem h1) k hk)⟩, h.held.apart⟩
end

theorem own_setInt {w : World} {B e n g t : Nat} {v : Value} {xs : List Int} (h : w.ownsRow B e 1 v n (xs.map (Value.int .i32))) (hg : v.ownBlock = some g) (ht : t < n) (val : Int) :
    (w.setCell ⟨g, t, none⟩ (.int .i32 val)).ownsRow B e 1 v n ((xs.set t val).map (Value.int .i32)) := by
  have := own_setCell h hg (o := t) (by omega) (.int .i32 val)
  rw [List.map_set]
  exact this

def LayTells (w : World) (dim : Int) (s : Mz) (e : Ending) (w' : World) : Prop :=
  (¬ (1 ≤ dim ∧ dim ≤ 8) ∧ e = .returned (.tuple #[.pointer none, .pointer none, .bool true]) ∧ Below w.heap.size w w') ∨
  ((1 ≤ dim ∧ dim ≤ 8) ∧ ∃ z p m mv Q VL B' x c vn ve lv rs, e = .returned (.tuple #[.pointer (some ⟨z, 0, none⟩), .pointer (some ⟨x, 0, none⟩), .bool true]) ∧ MzAt w.heap.size w' z p m mv Q dim (entryZ s.L) VL s ∧ RzAt B' w' x c dim vn ve lv rs s ∧ Below w.heap.size w w')

set_option maxRecDepth 100000 in
set_option maxHeartbeats 16000000 in
theorem lzLay (w : World) (dim : Int) (l : List (Int × List Int)) (v : Value) (hR : Recs w v l) (most : Nat) (hmost : most ≤ 100) :
    Calls Tryz.prog 11 #[.int .i64 dim, v, .int .i64 most] w (LayTells w dim (layM dim l most)) := by
  obtain ⟨lp, lc, rfl, hl1, hl2, -, -⟩ := id hR
  have hl63 : l.length ≤ 9223372036854775807 := by omega
  have LR := Lib.hid hR
  clear hR hl1 hl2
  by_cases hd : 1 ≤ dim ∧ dim ≤ 8
  · have cN := Lib.hid (mNew w dim hd)
    have HD := Lib.hid hd
    obtain ⟨RS, hRS⟩ : ∃ s, s = layM dim l most := ⟨_, rfl⟩
    rw [← hRS]
    have RSH := Lib.hid hRS
    clear hd hRS
    go_enter Tryz.func11, Tryz.ntmps11
    go_wp2_with fail
    (with_reducible refine cN.out.mono ?_)
    rintro e w1 ⟨z, p, m, mv, Q, rfl, hA, hb1⟩
    have cX := Lib.hid (rNew w1 dim)
    have A1 := Lib.hid hA
    have B1 := Lib.hid hb1
    clear hA hb1
    go_wp2_with fail
    (with_reducible refine cX.out.mono ?_)
    rintro e w2 ⟨x, c, rfl, hX, hb2⟩
    have A2 := Lib.hid (A1.out.below hb2)
    have X2 := Lib.hid hX
    have B2 := Lib.hid (B1.out.trans (hb2.mono B1.out.size))
    clear hX hb2
    go_upto_block 0 with fail
    go_cut [33] (fun st wc => ∃ Q VL vn ve lv rs, MzAt w.heap.size wc z p m mv Q dim (entryZ RS.L) VL RS ∧ RzAt w1.heap.size wc x c dim vn ve lv rs RS ∧ Below w.heap.size w wc)
    case first =>
      go_wp2_with fail
      go_loopg [33] l.length (fun q' i wr => ∃ (j : Nat) (Q : Gr) (VL : List (Int × Value)) (vn ve lv : Value) (rs : List Hv), q' = l.length - j ∧ j ≤ l.length ∧ j ≤ most ∧ i = .int .i64 j ∧ MzAt w.heap.size wr z p m mv Q dim (entryZ (layM dim l j).L) VL (layM dim l j) ∧ RzAt w1.heap.size wr x c dim vn ve lv rs (layM dim l j) ∧ Below w.heap.size w wr)
      case atStart => exact ⟨0, Q, [], _, _, _, _, rfl, by omega, by omega, rfl, A2.out, X2.out, B2.out⟩
      case round =>
        obtain ⟨j, Q, VL, vn, ve, lv, rs, rfl, hj, hjm, rfl, hA, hX, hB⟩ := hrel
        by_cases hlt : j < l.length
        · obtain ⟨bb, ob, u0, rfl, e0, e1, hna⟩ := LR.out.elem hlt
          replace e0 := below_cells hB e0
          replace e1 := below_cells hB e1
          have hst := layM_step dim l j hlt
          have hlen := layM_len dim l j
          have hok := layM_ok dim l j
          obtain ⟨k, hk⟩ : ∃ k, k = l[j].1 := ⟨_, rfl⟩
          obtain ⟨ys, hys⟩ : ∃ k, k = l[j].2 := ⟨_, rfl⟩
          rw [← hk] at e0 hst
          rw [← hys] at hst hna
          obtain ⟨s, hs⟩ : ∃ s, s = layM dim l j := ⟨_, rfl⟩
          rw [← hs] at hst hlen hok hA hX
          obtain ⟨up, uc, rfl, -, -, -, -⟩ := id hna.slice
          obtain ⟨un, hun⟩ : ∃ n, n = ys.length := ⟨_, rfl⟩
          rw [← hun] at e1 hna
          have hn0 := hna.below hB
          have NA := Lib.hid hna
          clear hna
          have ST := Lib.hid hst
          have OK := Lib.hid hok
          have A3 := Lib.hid hA
          have X3 := Lib.hid hX
          have B3 := Lib.hid hB
          have N0 := Lib.hid hn0
          have SJ := Lib.hid hs
          by_cases hjq : j = most
          · have hjq' : (most : Int) ≤ (j : Int) := by omega
            have RE := Lib.hid (show RS = s from by rw [RSH.out, SJ.out, hjq])
            clear hst hlen hok hk hys hun hs hA hX hB hn0 hjq
            go_wp2_with fail
            go_meet
            have hb9 : Below wr.heap.size wr (wr.alloc (.cells #[.int .u64 k, .slice up un uc] 74)) := (Below.refl _ _).alloc (Nat.le_refl _) _
            rw [RE.out]
            exact ⟨Q, VL, vn, ve, lv, rs, A3.out.below hb9, X3.out.below hb9, B3.out.trans (hb9.mono B3.out.size)⟩
          · have hjq' : ¬ (most : Int) ≤ (j : Int) := by omega
            obtain ⟨W4, hW4⟩ : ∃ W4, W4 = wr.alloc (.cells #[.int .u64 k, .slice up un uc] 74) := ⟨_, rfl⟩
            have hb4 : Below wr.heap.size wr W4 := by rw [hW4]; exact (Below.refl _ _).alloc (Nat.le_refl _) _
            have y4 : W4.heap[wr.heap.size]? = some (.cells #[.int .u64 k, .slice up un uc] 74 (0, 0)) := by rw [hW4]; exact heap_alloc_new _ _
            have B4 := Lib.hid hb4
            have Y4 := Lib.hid y4
            have HW4 := Lib.hid hW4
            have cC := cutVec ys (.slice up un uc) 10 W4 (N0.out.below hb4) (by decide) (.inr (by decide))
            rw [show Int.toNat 10 = 10 from rfl] at cC
            have cC := Lib.hid cC
            have hjm2 : j + 1 ≤ most := by omega
            have hlen2 : s.L.length ≤ 900 := by omega
            clear hst hlen hok hk hys hun hs hA hX hB hn0 hjq hW4 hb4 y4
            go_wp2_with fail
            rw [← HW4.out]
            (with_reducible refine cC.out.mono ?_)
            rintro e w5 ⟨v5, rfl, ho5, hb5⟩
            obtain ⟨mp, mn, mc, rfl⟩ := own_form ho5
            obtain ⟨cs, hcs⟩ : ∃ cs, cs = ys.take 10 := ⟨_, rfl⟩
            rw [← hcs] at ho5
            obtain rfl : mn = cs.length := own_len ho5
            obtain ⟨W6, hW6⟩ : ∃ W6, W6 = w5.drew := ⟨_, rfl⟩
            have hb6 : Below w5.heap.size w5 W6 := by rw [hW6]; exact (Below.refl _ _).drew
            have ho6 := own_below ho5 hb6
            have b36 : Below wr.heap.size wr W6 := B4.out.trans ((hb5.trans (hb6.mono hb5.size)).mono B4.out.size)
            have A6 := A3.out.below b36
            have X6 := Lib.hid (X3.out.below b36)
            have BW6 := Lib.hid (B3.out.trans (b36.mono B3.out.size))
            have N6 := Lib.hid (N0.out.below b36)
            have Y6 := Lib.hid (((hb5.trans (hb6.mono hb5.size)).block _ (lt_block Y4.out)).trans Y4.out)
            have mlow : ∀ b, (Value.slice mp cs.length mc).ownBlock = some b → wr.heap.size ≤ b ∧ b < W6.heap.size := fun b hb => ⟨Nat.le_trans B4.out.size (ho6.lt b hb).1, (ho6.lt b hb).2⟩
            have ML := Lib.hid mlow
            have O6 := Lib.hid ho6
            have cP := Lib.hid (mPut A6 rfl OK.out hlen2 k (.slice mp cs.length mc) cs (Nums.of_own ho6) (fun _ b hb => own_type ho6 hb))
            have NV0 := Lib.hid (show ∀ k v b, getK VL k = some v → v.ownBlock = some b → b < wr.heap.size from fun k v b h1 h2 => A3.out.valLt h1 h2)
            have NR0 := Lib.hid (show ∀ r ∈ rs, ∀ b, r.vec.ownBlock = some b → b < wr.heap.size from fun r hr b hb => (X3.out.held.lt hr b hb).2)
            have CS := Lib.hid hcs
            have HW6 := Lib.hid hW6
            obtain ⟨t, ht⟩ : ∃ t, t = wr.heap.size := ⟨_, rfl⟩
            rw [← ht] at Y6 ⊢
            have I6 := Lib.hid (And.intro (cellsB Y6.out 0) (cellsB Y6.out 1))
            obtain ⟨cd, hcd⟩ : ∃ c, c = (putM dim s k cs).1 := ⟨_, rfl⟩
            obtain ⟨s2, hs2⟩ : ∃ c, c = (putM dim s k cs).2 := ⟨_, rfl⟩
            rw [← CS.out] at ST
            have PC := Lib.hid (And.intro hcd hs2)
            rw [← hcd, ← hs2] at cP
            rw [← hs2] at ST
            clear ho5 hb5 hcs hW6 hb6 ho6 b36 A6 mlow ht hcd hs2
            go_upto_region 10 with fail
            refine region_goH (fun w' => w'.cell? ⟨t, 0, none⟩ = some (.int .u64 k) ∧ w'.cell? ⟨t, 1, none⟩ = some (.slice up un uc)) 21 (by kernel_rfl) rfl ?hS0 (fun O hO hH => ?_)
            case hS0 =>
              rw [← HW6.out]; exact I6.out
            rw [← HW6.out] at hH ⊢
            refine kYH 0 hO hH ?_
            repeat simp only [Act.put, uA1, uB1, uC1]
            refine kYH 1 hO hH ?_
            repeat simp only [Act.put, uA1, uB1, uC1]
            refine kYH 2 hO hH ?_
            repeat simp only [Act.put, uA1, uB1, uC1]
            refine kYH 3 hO hH ?_
            repeat simp only [Act.put, uA1, uB1, uC1]
            refine kYH 5 hO hH ?_
            repeat simp only [Act.put, uA1, uB1, uC1]
            refine kYH 6 hO hH ?_
            repeat simp only [Act.put, uA1, uB1, uC1]
            refine kYH 7 hO hH ?_
            repeat simp only [Act.put, uA1, uB1, uC1]
            refine kYH 8 hO hH ?_
            repeat simp only [Act.put, uA1, uB1, uC1]
            refine kYH 9 hO hH ?_
            repeat simp only [Act.put, uA1, uB1, uC1]
            refine spkH 4 hO rfl (by decide +kernel) (by rfl) (fun K' hK => ?_)
            go_simp
            with_reducible refine cP.out.mono ?_
            rintro e w7 ⟨rfl, ⟨Q7, VL7, hA7, hNV7⟩, hm7⟩
            have A7 := Lib.hid hA7
            have X7 := Lib.hid (X6.out.mturn hm7)
            have Y7 := Lib.hid (MTurn.box hm7 Y6.out (by decide))
            have b7 := hm7.below (B := w.heap.size) BW6.out.size (fun k hk => hk.1)
            have BW7 := Lib.hid (BW6.out.trans b7)
            have O7 := Lib.hid (own_agree O6.out fun b hb => ((own_type O6.out hb).mturn hm7 (by decide)).1)
            have cC8 := cutVec ys (.slice up un uc) 10 w7 (NA.out.below BW7.out) (by decide) (.inr (by decide))
            rw [show Int.toNat 10 = 10 from rfl, ← CS.out] at cC8
            have cC8 := Lib.hid cC8
            have NV7 := Lib.hid hNV7
            try dsimp only
            refine hK.out _ _ ?hS (fun hH' => ?_)
            case hS =>
              exact ⟨cellsB Y7.out 0, cellsB Y7.out 1⟩
            clear hK K' hH; have hH := hH'; clear hH'; repeat simp only [Act.put, uA1, uB1, uC1]
            refine spkH 10 hO rfl (by decide +kernel) (by rfl) (fun K' hK => ?_)
            go_simp
            with_reducible refine cC8.out.mono ?_
            rintro e w8 ⟨v8, rfl, ho8, hb8⟩
            obtain ⟨mp8, mn8, mc8, rfl⟩ := own_form ho8
            have cX8 := Lib.hid (rPut (X7.out.below hb8) OK.out hlen2 k (.slice mp8 mn8 mc8) cs (Nums.of_own ho8) (fun _ b hb => own_type ho8 hb))
            rw [← PC.out.1, ← PC.out.2] at cX8
            have A8 := Lib.hid (A7.out.below hb8)
            have BW8 := Lib.hid (BW7.out.trans (hb8.mono BW7.out.size))
            have O8 := Lib.hid (own_below O7.out hb8)
            have Y8 := Lib.hid ((hb8.block _ (lt_block Y7.out)).trans Y7.out)
            try dsimp only
            refine hK.out _ _ ?hS (fun hH' => ?_)
            case hS =>
              exact ⟨below_cells hb8 hH.1, below_cells hb8 hH.2⟩
            clear hK K' hH; have hH := hH'; clear hH'; repeat simp only [Act.put, uA1, uB1, uC1]
            refine spkH 11 hO rfl (by decide +kernel) (by rfl) (fun K' hK => ?_)
            go_simp
            with_reducible refine cX8.out.mono ?_
            rintro e w9 ⟨rfl, ⟨vn9, ve9, lv9, rs9, hX9, hNR9⟩, hm9⟩
            have X9 := Lib.hid hX9
            have A9 := Lib.hid (A8.out.rturn hm9)
            have Y9 := Lib.hid (RTurn.box hm9 Y8.out (by decide))
            have b9 := hm9.below (B := w.heap.size) BW8.out.size (fun k hk => Nat.le_trans B1.out.size hk.1)
            have BW9 := Lib.hid (BW8.out.trans b9)
            have O9 := Lib.hid (own_agree O8.out fun b hb => ((own_type O8.out hb).rturn hm9 (by decide)).1)
            have cC9 := cutVec ys (.slice up un uc) 10 w9 (NA.out.below BW9.out) (by decide) (.inr (by decide))
            rw [show Int.toNat 10 = 10 from rfl, ← CS.out] at cC9
            have cC9 := Lib.hid cC9
            have NR9 := Lib.hid hNR9
            try dsimp only
            refine hK.out _ _ ?hS (fun hH' => ?_)
            case hS =>
              exact ⟨cellsB Y9.out 0, cellsB Y9.out 1⟩
            clear hK K' hH; have hH := hH'; clear hH'; repeat simp only [Act.put, uA1, uB1, uC1]
            refine kYH 12 hO hH ?_
            repeat simp only [Act.put, uA1, uB1, uC1]
            refine kYH 13 hO hH ?_
            repeat simp only [Act.put, uA1, uB1, uC1]
            refine kYH 14 hO hH ?_
            repeat simp only [Act.put, uA1, uB1, uC1]
            refine kYH 15 hO hH ?_
            repeat simp only [Act.put, uA1, uB1, uC1]
            refine kYH 16 hO hH ?_
            repeat simp only [Act.put, uA1, uB1, uC1]
            refine spkH 17 hO rfl (by decide +kernel) (by rfl) (fun K' hK => ?_)
            go_simp
            with_reducible refine cC9.out.mono ?_
            rintro e w10 ⟨v10, rfl, ho10, hb10⟩
            obtain ⟨mp10, mn10, mc10, rfl⟩ := own_form ho10
            have cS10 := sameVecQ cs cs _ _ w10 (Nums.of_own (own_below O9.out hb10)) (Nums.of_own ho10)
            rw [decide_eq_true (Eq.refl cs)] at cS10
            have cS10 := Lib.hid cS10
            try dsimp only
            refine hK.out _ _ ?hS (fun hH' => ?_)
            case hS =>
              exact ⟨below_cells hb10 hH.1, below_cells hb10 hH.2⟩
            clear hK K' hH; have hH := hH'; clear hH'; repeat simp only [Act.put, uA1, uB1, uC1]
            refine spkH 18 hO rfl (by decide +kernel) (by rfl) (fun K' hK => ?_)
            go_simp
            with_reducible refine cS10.out.mono ?_
            rintro e w11 ⟨rfl, hd11⟩
            have b911 := hb10.trans (hd11.below.mono hb10.size)
            have A11 := Lib.hid (A9.out.below b911)
            have X11 := Lib.hid (X9.out.below b911)
            have O11 := Lib.hid (own_below O9.out b911)
            have BW11 := Lib.hid (BW9.out.trans (b911.mono BW9.out.size))
            have S78 := Lib.hid (show W6.heap.size ≤ w8.heap.size from Nat.le_trans hm7.size hb8.size)
            try dsimp only
            refine hK.out _ _ ?hS (fun hH' => ?_)
            case hS =>
              exact ⟨below_cells hd11.below hH.1, below_cells hd11.below hH.2⟩
            clear hK K' hH; have hH := hH'; clear hH'; repeat simp only [Act.put, uA1, uB1, uC1]
            refine kYH 19 hO hH ?_
            repeat simp only [Act.put, uA1, uB1, uC1]
            refine kYH 20 hO hH ?_
            repeat simp only [Act.put, uA1, uB1, uC1]
            refine doneH hO (by decide +kernel) ?_
            clear hO
            clear hH hA7 hNV7 hm7 b7 ho8 hb8 hX9 hNR9 hm9 b9 ho10 hb10 hd11 b911
            have hc63 : cs.length ≤ 9223372036854775807 := own_short O11.out
            have POKE := Lib.hid (show ∀ W, Mod (fun j => (Value.slice mp cs.length mc).ownBlock = some j) w11 W → MzAt w.heap.size W z p m mv Q7 dim (entryZ s2.L) VL7 s2 ∧ RzAt w1.heap.size W x c dim vn9 ve9 lv9 rs9 s2 ∧ Below w.heap.size w W from fun W hW => by
              have ht : ∀ j, (Value.slice mp cs.length mc).ownBlock = some j → OfType w11 21 j := fun j hj => own_type O11.out hj
              refine ⟨A11.out.poke hW ht fun k v b h1 h2 h3 => ?_, X11.out.poke hW ht fun r hr b h2 h3 => ?_, BW11.out.trans (hW.below BW11.out.size fun j hj => ?_)⟩
              · have h4 := ML.out b h3
                rcases NV7.out k v b h1 h2 with h5 | h5
                · have := NV0.out k v b h5 h2
                  omega
                · omega
              · have h4 := ML.out b h3
                have h6 := S78.out
                rcases NR9.out r hr b h2 with ⟨q, hq, hqb⟩ | h5
                · have := NR0.out q hq b hqb
                  omega
                · omega
              · have h4 := ML.out j hj
                have h5 := B3.out.size
                omega)
            have WROLD := Lib.hid (And.intro hj hjm2)
            go_wp2_with fail
            go_loopg [67] cs.length (fun q' i wt => ∃ (tt : Nat) (xs' : List Int), q' = cs.length - tt ∧ tt ≤ cs.length ∧ i = .int .i64 tt ∧ xs'.length = cs.length ∧ wt.ownsRow W4.heap.size 21 1 (.slice mp cs.length mc) cs.length (xs'.map (Value.int .i32)) ∧ Mod (fun j => (Value.slice mp cs.length mc).ownBlock = some j) w11 wt)
            case atStart => exact ⟨0, cs, rfl, by omega, rfl, rfl, O11.out, Mod.refl _ _⟩
            case round =>
              obtain ⟨tt, xs', rfl, htt, rfl, hxl, hown, hmt⟩ := hrel
              by_cases hlt5 : tt < cs.length
              · obtain ⟨g, cg, hv, -, -⟩ := hown.form (by omega)
                obtain ⟨rfl, -, rfl⟩ := Value.slice.inj hv
                have e5 := own_cell hown rfl (show (xs'.map (Value.int .i32))[tt]? = some (.int .i32 (xs'[tt]'(by omega))) by simp [List.getElem?_eq_getElem (show tt < xs'.length by omega)])
                obtain ⟨hc0, hf0⟩ := own_there hown rfl tt 1 (by omega) 0 (by omega)
                simp only [Nat.add_zero] at hf0
                obtain ⟨yv, hyv⟩ : ∃ y, y = xs'[tt]'(by omega) := ⟨_, rfl⟩
                rw [← hyv] at e5
                have KK := Lib.hid (And.intro hown (And.intro hmt hxl))
                clear hown hmt hxl hv hyv hc0
                go_wp2_with fail
                go_roundg (cs.length - (tt + 1))
                case measure => omega
                case rel => exact ⟨tt + 1, xs'.set tt _, rfl, by omega, by go_num, by rw [List.length_set]; exact KK.out.2.2, own_setInt KK.out.1 rfl (by omega) _, KK.out.2.1.setCell (p := ⟨g, tt, none⟩) (.inl rfl) _⟩
              · have PK := Lib.hid (POKE.out _ hmt)
                clear hown hmt
                go_wp2_with fail
                go_roundg (l.length - (j + 1))
                case measure => omega
                case rel => exact ⟨j + 1, Q7, VL7, vn9, ve9, lv9, rs9, rfl, by omega, hjm2, by go_num, by rw [ST.out]; exact PK.out.1, by rw [ST.out]; exact PK.out.2.1, PK.out.2.2⟩
        · obtain rfl : j = l.length := by omega
          have RE := Lib.hid (show RS = layM dim l l.length from by rw [RSH.out]; unfold layM; rw [List.take_of_length_le hjm, List.take_length])
          have FIN := Lib.hid (And.intro hA (And.intro hX hB))
          clear hA hX hB
          go_wp2_with fail
          go_meet
          rw [RE.out]
          exact ⟨Q, VL, vn, ve, lv, rs, FIN.out.1, FIN.out.2.1, FIN.out.2.2⟩
    case rest =>
      obtain ⟨Q, VL, vn, ve, lv, rs, hA, hX, hB⟩ := hcut
      have FIN := Lib.hid (And.intro hA (And.intro hX hB))
      clear hA hX hB
      go_wp2_with fail
      go_ret3
      exact .inr ⟨HD.out, z, p, m, mv, Q, VL, _, x, c, vn, ve, lv, rs, rfl, FIN.out.1, FIN.out.2.1, FIN.out.2.2⟩
  · have cN := Lib.hid (mNew_no w dim hd)
    have HD := Lib.hid hd
    have cX := Lib.hid (rNew w dim)
    by_cases hd1 : dim < 1
    · clear hd
      go_enter Tryz.func11, Tryz.ntmps11
      go_wp2_with fail
      (with_reducible refine cN.out.mono ?_)
      rintro e w1 ⟨rfl, rfl⟩
      go_wp2_with fail
      (with_reducible refine cX.out.mono ?_)
      rintro e w2 ⟨x, c, rfl, -, hb2⟩
      have B2 := Lib.hid hb2
      clear hb2
      go_wp2_with fail
      go_ret3
      exact .inl ⟨HD.out, rfl, B2.out⟩
    · have hd2 : 8 < dim := by omega
      clear hd
      go_enter Tryz.func11, Tryz.ntmps11
      go_wp2_with fail
      (with_reducible refine cN.out.mono ?_)
      rintro e w1 ⟨rfl, rfl⟩
      go_wp2_with fail
      (with_reducible refine cX.out.mono ?_)
      rintro e w2 ⟨x, c, rfl, -, hb2⟩
      have B2 := Lib.hid hb2
      clear hb2
      go_wp2_with fail
      go_ret3
      exact .inl ⟨HD.out, rfl, B2.out⟩

end Go.Proofs.YtpjbkaibgajpcaaGreat
