/-
  gather's document: Ask: the walk.
-/
import Derived.Test.YtfmlhdikagogcaaDoorJ25
import Derived.Test.YtfmlhdikagogcaaDoorJ39
import Derived.Deep.DeepCutAuto
namespace Go.Proofs.YtfmlhdikagogcaaDoor
open Go.RowKit
set_option maxRecDepth 20000


theorem no_step {α : Type} {l : List α} {p : α → Bool} {k : Nat} {hk : k < l.length} (h : ∀ j (hj : j < l.length), j < k → p l[j] = false) (h1 : p l[k] = false) : ∀ j (hj : j < l.length), j < k + 1 → p l[j] = false := fun j hj hl => by
  rcases Nat.lt_or_ge j k with h2 | h2
  · exact h j hj h2
  · obtain rfl : j = k := by omega
    exact h1

theorem ask_note {g : Gz} {n : Nt} {frm stamp mark : Int} (hr : rightN n = true) (hk : n.kind = 8) (hf : n.Fits) : (askQ g frm n stamp mark).note = ⟨9, 0, 0, stamp, 0, mark, IntKind.u64.wrap (g.last + 1), n.id, n.k, n.ef, 0, 0, [], [], n.vec, []⟩ := by
  obtain ⟨⟨a1, a2, a3⟩, -, b1, b2, b3, b4, b5, b6, b7⟩ := right_query hr hk
  have := hf.txn; have := hf.batch; have := hf.after
  obtain ⟨k1, k2, k3, k4, k5, k6, k7, k8, k9, k10, k11, k12, k13, k14, k15, k16⟩ := n
  simp only at *
  unfold askQ
  simp only [Nt.mk.injEq]
  refine ⟨trivial, by omega, by omega, trivial, by omega, trivial, trivial, trivial, trivial, trivial, b6, b7, a1, a2, trivial, a3⟩


set_option maxHeartbeats 4000000 in
theorem dask
    (c : Nat) (F E : Nat → Prop) (g : Gz) (n : Nt) (vp vo vv vh : Value) (frm stamp mark : Int) (w : World) (hG : RefG w c F g) (hok : GOk g) (hv : NoteM w E n vp vo vv vh) (hE : ∀ k, E k → k < w.heap.size ∧ k ≠ c) (hfit : n.Fits) (hnl : n.vec.length ≤ 1000000)
    (hRT : n.kind = 8 → ∀ W, Below w.heap.size w W → Calls Tryd.prog 20 #[.agg (n.cells vp vo vv vh)] W fun e w' => e = .returned (.bool (rightN n)) ∧ Below W.heap.size W w')
    :
    Calls Tryd.prog 23 #[.pointer (some ⟨c, 0, none⟩), .int .i64 frm, .agg (n.cells vp vo vv vh), .int .u64 stamp, .int .u64 mark] w (DTold w c F E (askZ g frm n stamp mark).1 (askZ g frm n stamp mark).2)
  := by
  have RG := Lib.hid hG
  obtain ⟨p2, c2, rfl, -, -, -, -⟩ := hv.read.vec.slice
  obtain ⟨NC, hNC⟩ : ∃ NC : Array Value, NC = n.cells vp vo (.slice p2 n.vec.length c2) vh := ⟨_, rfl⟩
  have NSZ : (Tryd.prog.info? 53).map (·.size) = some NC.size := by rw [hNC]; kernel_rfl
  have HNC := Lib.hid hNC
  rw [← hNC]
  rw [← hNC] at hRT
  have RT := Lib.hid hRT
  have VV := Lib.hid hv
  have EE := Lib.hid hE
  have FT := Lib.hid hfit
  have OK := Lib.hid hok
  have NL := Lib.hid hnl
  have hl1 : n.vec.length ≤ 9223372036854775807 := by omega
  obtain ⟨v, xs, hob, hD, hxs, hlow⟩ := hG
  obtain ⟨p, cap, rfl, hcap, hbig, -, -, -⟩ := id hD
  have hxl : xs.length = g.l.length := by rw [← hxs]; simp
  have hcs := lt_block hob
  have x30 : w.cell? ⟨c, 3, none⟩ = some (.slice p xs.length cap) := by rw [cells_get hob 3]; rfl
  have gk : ∀ j (h : j < xs.length) (h' : j < g.l.length), xs[j].1 = g.l[j] := fun j h h' => by simp only [← hxs, List.getElem_map]
  have HD := Lib.hid hD
  have HX := Lib.hid (And.intro hxs (And.intro hob hlow))
  have GK := Lib.hid gk
  have hl9 : xs.length ≤ 9223372036854775807 := by omega
  have HXL := Lib.hid hxl
  clear hob hD hxs hlow gk hcap hbig hxl
  clear hNC hRT hv hE hfit hok hnl
  go_enter Tryd.func23, Tryd.ntmps23
  go_upto_region 1 with fail
  obtain ⟨W1, hW1⟩ : ∃ W1, W1 = w.alloc (.cells NC 53) := ⟨_, rfl⟩
  have y1 : W1.heap[w.heap.size]? = some (.cells NC 53 (0, 0)) := by rw [hW1]; exact heap_alloc_new _ _
  have b1 : Below w.heap.size w W1 := by rw [hW1]; exact (Below.refl _ _).alloc (Nat.le_refl _) _
  rw [← hW1]
  clear hW1
  have z0 : W1.cell? ⟨w.heap.size, 0, none⟩ = some (.int .u8 n.kind) := by rw [cells_get y1 0, HNC.out]; rfl
  have Y1 := Lib.hid (And.intro y1 b1)
  by_cases hk : n.kind = 8
  rotate_left
  · have hk1 : (n.kind != 8) = true := bne_iff_ne.2 hk
    have AZ := Lib.hid (askZ_odd (g := g) (frm := frm) (stamp := stamp) (mark := mark) (oddB_kind hk))
    clear b1 y1
    go_wp2_with fail
    go_ret
    rw [AZ.out]
    exact DTold.nope RG.out Y1.out.2
  have hk1 : (n.kind != 8) = false := by rw [hk]; rfl
  have RN := Lib.hid (RT.out hk W1 b1)
  have HK := Lib.hid hk
  clear hk b1
  go_wp2_with (refine wpList_rowH 53 _ rfl (by rfl) w.heap.size (by rfl) 53 NC (0, 0) _ y1 Tryd.underlying53 rfl NSZ ?_)
  with_reducible refine RN.out.mono ?_
  rintro e w2 ⟨rfl, hb2⟩
  have B2 := Lib.hid (Y1.out.2.trans (hb2.mono Y1.out.2.size))
  have hlt2 : w.heap.size < w2.heap.size := Nat.lt_of_lt_of_le (lt_block y1) hb2.size
  have y2 := (hb2.block _ (lt_block y1)).trans y1
  clear hb2 y1 RN z0
  obtain ⟨rn, hrn⟩ : ∃ rn, rn = rightN n := ⟨_, rfl⟩
  rw [← hrn]
  cases rn
  · have AZ := Lib.hid (askZ_odd (g := g) (frm := frm) (stamp := stamp) (mark := mark) (oddB_right hrn.symm))
    clear hrn y2
    go_wp2_with fail
    go_ret
    rw [AZ.out]
    exact DTold.nope RG.out B2.out
  have RN := Lib.hid hrn.symm
  clear hrn
  by_cases h1 : frm < 0
  · have AZ := Lib.hid (askZ_odd (g := g) (stamp := stamp) (mark := mark) (oddB_low (n := n) (k := 8) h1))
    clear y2
    go_wp2_with fail
    go_ret
    rw [AZ.out]
    exact DTold.nope RG.out B2.out
  by_cases h2 : 15 < frm
  · have AZ := Lib.hid (askZ_odd (g := g) (stamp := stamp) (mark := mark) (oddB_high (n := n) (k := 8) h2))
    clear y2
    go_wp2_with fail
    go_ret
    rw [AZ.out]
    exact DTold.nope RG.out B2.out
  have OD := Lib.hid (oddB_no HK.out RN.out h1 h2)
  have dl : decide (frm < 0) = false := decide_eq_false h1
  have dh : decide (15 < frm) = false := decide_eq_false h2
  have H12 := Lib.hid (And.intro h1 h2)
  have z6 : w2.cell? ⟨w.heap.size, 6, none⟩ = some (.int .u64 n.query) := by rw [cells_get y2 6, HNC.out]; rfl
  have z14 : w2.cell? ⟨w.heap.size, 14, none⟩ = some (.slice p2 n.vec.length c2) := by rw [cells_get y2 14, HNC.out]; rfl
  have Y2 := Lib.hid y2
  have yc2 := (B2.out.block _ hcs).trans HX.out.2.1
  have x32 : w2.cell? ⟨c, 3, none⟩ = some (.slice p xs.length cap) := by rw [cells_get yc2 3]; rfl
  have YC2 := Lib.hid yc2
  clear y2 yc2
  go_wp2_with fail
  go_loopg [40] xs.length (fun q i wr => ∃ k : Nat, q = xs.length - k ∧ k ≤ xs.length ∧ i = .int .i64 k ∧ (∀ j (h : j < g.l.length), j < k → isQ frm n g.l[j] = false) ∧ Below w2.heap.size w2 wr)
  case atStart => exact ⟨0, rfl, by omega, rfl, fun j _ h => absurd h (by omega), Below.refl _ _⟩
  case round =>
    obtain ⟨k, rfl, hk, rfl, hno, hb⟩ := hrel
    have HBW := B2.out.trans (hb.mono B2.out.size)
    have ZR := Lib.hid (And.intro hb HBW)
    have NO := Lib.hid hno
    have z6 := below_cells hb z6
    clear hno
    by_cases hlt : k < xs.length
    · skip
      --<<
      have hgl : k < g.l.length := by have := HXL.out; omega
      obtain ⟨bb, off, hpp, -, hrg, hdq⟩ := (HD.out.below HBW).elem hlt
      subst hpp
      obtain ⟨CS, hCS⟩ : ∃ CS : List Value, CS = dqCells xs[k] := ⟨_, rfl⟩
      have LEN : CS.length = 19 := by rw [hCS]; rfl
      have SZ : (Tryd.prog.info? 108).map (·.size) = some CS.length := by rw [LEN]; kernel_rfl
      have SZ' : (Tryd.prog.info? 108).map (·.size) = some CS.toArray.size := by rw [List.size_toArray, LEN]; kernel_rfl
      have RA : wr.rangeAt bb (off + k * 19) CS := by rw [hCS]; exact hrg
      have ONE : CS.toArray.all (·.oneCell') = true := by rw [hCS, Array.all_eq_true_iff_forall_mem]; intro u hu; exact hdq.one u (by simpa using hu)
      have hsz : (#[.int .u8 0, .int .u64 0, .int .u64 0, .int .u64 0, .int .u64 0, .int .u64 0, .int .u64 0, .int .u64 0, .int .i64 0, .int .i64 0, .int .i64 0, .int .i64 0, .slice none 0 0, .slice none 0 0, .slice none 0 0, .slice none 0 0, .int .i64 0, .int .u64 0, .slice none 0 0] : Array Value).size = CS.toArray.size := by rw [show CS.toArray.size = 19 by rw [List.size_toArray, LEN]]; rfl
      obtain ⟨W3, hW3⟩ : ∃ W3, W3 = (wr.alloc (.cells #[.int .u8 0, .int .u64 0, .int .u64 0, .int .u64 0, .int .u64 0, .int .u64 0, .int .u64 0, .int .u64 0, .int .i64 0, .int .i64 0, .int .i64 0, .int .i64 0, .slice none 0 0, .slice none 0 0, .slice none 0 0, .slice none 0 0, .int .i64 0, .int .u64 0, .slice none 0 0] 108)).setRow wr.heap.size CS.toArray := ⟨_, rfl⟩
      have b3 : Below wr.heap.size wr W3 := by rw [hW3]; exact below_setRow ((Below.refl _ _).alloc (Nat.le_refl _) _) (Nat.le_refl _) _
      have y3 : W3.heap[wr.heap.size]? = some (.cells CS.toArray 108 (0, 0)) := by rw [hW3]; exact setRow_heap _ _ _ _ _ _ (heap_alloc_new _ _)
      have Y3 := Lib.hid (And.intro y3 (And.intro hCS (hdq.below b3)))
      have x3 : W3.cell? ⟨wr.heap.size, 3, none⟩ = some (.int .u64 xs[k].1.note.stamp) := by rw [cells_get y3 3, List.getElem?_toArray, hCS]; rfl
      have x6 : W3.cell? ⟨wr.heap.size, 6, none⟩ = some (.int .u64 xs[k].1.note.query) := by rw [cells_get y3 6, List.getElem?_toArray, hCS]; rfl
      have x16 : W3.cell? ⟨wr.heap.size, 16, none⟩ = some (.int .i64 xs[k].1.who) := by rw [cells_get y3 16, List.getElem?_toArray, hCS]; rfl
      have x17 : W3.cell? ⟨wr.heap.size, 17, none⟩ = some (.int .u64 xs[k].1.query) := by rw [cells_get y3 17, List.getElem?_toArray, hCS]; rfl
      have HW3 := Lib.hid hW3
      have HB3 := Lib.hid b3
      have hs3 := b3.size
      clear hW3 hrg hdq hCS y3 b3
      go_upto_region 6 with (first | refine wpList_load_mid rfl 108 _ rfl bb (off + k * 19) (by rfl) CS _ RA Tryd.underlying108 rfl SZ ?_ | refine wpList_store_row rfl 108 _ _ rfl wr.heap.size CS.toArray (by rfl) (by rfl) 108 #[.int .u8 0, .int .u64 0, .int .u64 0, .int .u64 0, .int .u64 0, .int .u64 0, .int .u64 0, .int .u64 0, .int .i64 0, .int .i64 0, .int .i64 0, .int .i64 0, .slice none 0 0, .slice none 0 0, .slice none 0 0, .slice none 0 0, .int .i64 0, .int .u64 0, .slice none 0 0] (heap_alloc_new _ _) SZ' hsz ONE ?_)
      rw [← HW3.out]
      clear RA SZ' hsz ONE
      clear x3 x6 HBW
      have hq : isQ frm n g.l[k] = (xs[k].1.who == frm && xs[k].1.query == n.query) := by rw [← GK.out k hlt hgl]; rfl
      have HQ := Lib.hid hq
      have z6 := below_cells HB3.out z6
      clear hq hb
      by_cases hw : xs[k].1.who = frm
      · by_cases hqq : xs[k].1.query = n.query
        · have FQ := Lib.hid (show g.l.find? (isQ frm n) = some g.l[k] from List.find?_eq_some_iff_getElem.2 ⟨by rw [HQ.out]; simp [hw, hqq], k, hgl, rfl, fun j hj => by have := NO.out j (by omega) hj; simp [this]⟩)
          have AZ := Lib.hid (show askZ g frm n stamp mark = (looksZ xs[k].1, g) by unfold askZ; rw [OD.out, if_neg (by simp), FQ.out, ← GK.out k hlt hgl])
          have hw1 : (xs[k].1.who == frm) = true := by simp [hw]
          have hq1 : (xs[k].1.query == n.query) = true := by simp [hqq]
          have RS := Lib.hid (dlooks xs[k].1 xs[k].2 F W3 Y3.out.2.2 (fun j hj => Nat.lt_of_lt_of_le (HX.out.2.2 j hj).1 (Nat.le_trans ZR.out.2.size hs3)) (by rw [GK.out k hlt hgl]; have := (OK.out.each _ (List.getElem_mem hgl)).1; omega))
          rw [← Y3.out.2.1] at RS
          have y3 := Y3.out.1
          have SZ3 : (Tryd.prog.info? 108).map (·.size) = some CS.toArray.size := by rw [List.size_toArray]; exact SZ
          clear hw hqq
          go_wp2_with (refine wpList_load_row rfl 108 _ rfl wr.heap.size (by rfl) 108 CS.toArray (0, 0) _ y3 Tryd.underlying108 rfl SZ3 ?_)
          with_reducible refine RS.out.mono ?_
          intro e w4 hN
          have FIN := Lib.hid (DTold.same (E := E) RG.out (ZR.out.2.trans (HB3.out.mono ZR.out.2.size)) hN)
          obtain ⟨v3, rs3, G3, rfl, -⟩ := hN
          go_wp2_with fail
          go_ret
          rw [AZ.out]
          exact FIN.out
        · have hw1 : (xs[k].1.who == frm) = true := by simp [hw]
          have hq1 : (xs[k].1.query == n.query) = false := by simp [hqq]
          have NX := Lib.hid (show isQ frm n g.l[k] = false by rw [HQ.out, hq1]; simp)
          clear hw hqq
          go_wp2_with fail
          go_roundg (xs.length - (k + 1))
          case measure => omega
          case rel => exact ⟨k + 1, rfl, by omega, by go_num, no_step NO.out NX.out, ZR.out.1.trans (HB3.out.mono ZR.out.1.size)⟩
      · have hw1 : (xs[k].1.who == frm) = false := by simp [hw]
        have NX := Lib.hid (show isQ frm n g.l[k] = false by rw [HQ.out, hw1]; simp)
        clear hw
        go_wp2_with fail
        go_roundg (xs.length - (k + 1))
        case measure => omega
        case rel => exact ⟨k + 1, rfl, by omega, by go_num, no_step NO.out NX.out, ZR.out.1.trans (HB3.out.mono ZR.out.1.size)⟩
      -->>
    · obtain rfl : k = xs.length := by omega
      have FN := Lib.hid (show g.l.find? (isQ frm n) = none from List.find?_eq_none.2 fun x hx => by
        obtain ⟨j, hj, rfl⟩ := List.mem_iff_getElem.1 hx
        simp [NO.out j hj (by have := HXL.out; omega)])
      have ycr := (hb.block _ (lt_block YC2.out)).trans YC2.out
      have ynr := (hb.block _ hlt2).trans Y2.out
      have YR := Lib.hid (And.intro ycr ynr)
      have x1 : wr.cell? ⟨c, 1, none⟩ = some (.int .i64 g.dim) := by rw [cells_get ycr 1]; rfl
      have z14 := below_cells hb z14
      have BR := Lib.hid HBW
      clear ycr ynr HBW hb hlt hk x32 x30
      go_upto_region 9 with fail
      go_cut [71] (fun s71 wc => s71 = .bool (decide (0 < n.vec.length) && (n.vec.length : Int) != g.dim) ∧ Below wr.heap.size wr wc)
      case first =>
        obtain ⟨Wd, hWd⟩ : ∃ Wd, Wd = wr.drew := ⟨_, rfl⟩
        have bd : Below wr.heap.size wr Wd := by rw [hWd]; exact (Below.refl _ _).drew
        have HWd := Lib.hid hWd
        clear hWd
        --<<
        by_cases hv0 : 0 < n.vec.length
        · have d0 : decide ((0 : Int) < (n.vec.length : Int)) = true := decide_eq_true (by omega)
          have d1 : decide (0 < n.vec.length) = true := decide_eq_true hv0
          have VB := Lib.hid hv0
          clear hv0
          refine region_go (fun w' => w'.cell? ⟨w.heap.size, 14, none⟩ = some (.slice p2 n.vec.length c2) ∧ w'.cell? ⟨c, 1, none⟩ = some (.int .i64 g.dim)) (by kernel_rfl) ?hS0 (fun hH => ?_)
          case hS0 =>
            rw [← HWd.out]; exact ⟨below_cells bd z14, below_cells bd x1⟩
          rw [← HWd.out] at hH ⊢
          refine kY 0 hH ?_
          repeat simp only [Act.put, uA1, uB1, uC1]
          refine kY 1 hH ?_
          repeat simp only [Act.put, uA1, uB1, uC1]
          refine kY 2 hH ?_
          repeat simp only [Act.put, uA1, uB1, uC1]
          refine kY 3 hH ?_
          repeat simp only [Act.put, uA1, uB1, uC1]
          refine kY 4 hH ?_
          repeat simp only [Act.put, uA1, uB1, uC1]
          refine kY 5 hH ?_
          repeat simp only [Act.put, uA1, uB1, uC1]
          refine kY 6 hH ?_
          repeat simp only [Act.put, uA1, uB1, uC1]
          refine kY 7 hH ?_
          repeat simp only [Act.put, uA1, uB1, uC1]
          refine kY 8 hH ?_
          repeat simp only [Act.put, uA1, uB1, uC1]
          refine kY 9 hH ?_
          repeat simp only [Act.put, uA1, uB1, uC1]
          refine kY 10 hH ?_
          repeat simp only [Act.put, uA1, uB1, uC1]
          refine kY 11 hH ?_
          repeat simp only [Act.put, uA1, uB1, uC1]
          refine kY 12 hH ?_
          repeat simp only [Act.put, uA1, uB1, uC1]
          refine kY 13 hH ?_
          repeat simp only [Act.put, uA1, uB1, uC1]
          refine wpAnyH_done (by decide +kernel) ?_ _
          go_wp2_with fail
          go_meet
          exact ⟨by simp [VB.out], bd⟩
        · have d0 : decide ((0 : Int) < (n.vec.length : Int)) = false := decide_eq_false (by omega)
          have d1 : decide (0 < n.vec.length) = false := decide_eq_false hv0
          have VB := Lib.hid hv0
          clear hv0
          refine region_go (fun w' => w'.cell? ⟨w.heap.size, 14, none⟩ = some (.slice p2 n.vec.length c2) ∧ w'.cell? ⟨c, 1, none⟩ = some (.int .i64 g.dim)) (by kernel_rfl) ?hS0 (fun hH => ?_)
          case hS0 =>
            rw [← HWd.out]; exact ⟨below_cells bd z14, below_cells bd x1⟩
          rw [← HWd.out] at hH ⊢
          refine kY 0 hH ?_
          repeat simp only [Act.put, uA1, uB1, uC1]
          refine kY 1 hH ?_
          repeat simp only [Act.put, uA1, uB1, uC1]
          refine kY 2 hH ?_
          repeat simp only [Act.put, uA1, uB1, uC1]
          refine kY 3 hH ?_
          repeat simp only [Act.put, uA1, uB1, uC1]
          refine kY 4 hH ?_
          repeat simp only [Act.put, uA1, uB1, uC1]
          refine kN 5 hH ?_
          repeat simp only [Act.put, uA1, uB1, uC1]
          refine kN 6 hH ?_
          repeat simp only [Act.put, uA1, uB1, uC1]
          refine kN 7 hH ?_
          repeat simp only [Act.put, uA1, uB1, uC1]
          refine kN 8 hH ?_
          repeat simp only [Act.put, uA1, uB1, uC1]
          refine kN 9 hH ?_
          repeat simp only [Act.put, uA1, uB1, uC1]
          refine kN 10 hH ?_
          repeat simp only [Act.put, uA1, uB1, uC1]
          refine kN 11 hH ?_
          repeat simp only [Act.put, uA1, uB1, uC1]
          refine kN 12 hH ?_
          repeat simp only [Act.put, uA1, uB1, uC1]
          refine kY 13 hH ?_
          repeat simp only [Act.put, uA1, uB1, uC1]
          refine wpAnyH_done (by decide +kernel) ?_ _
          go_wp2_with fail
          go_meet
          exact ⟨by simp [VB.out], bd⟩
        -->>
      case rest =>
      obtain ⟨rfl, hb9⟩ := hcut
      have b9 := Lib.hid (BR.out.trans (hb9.mono BR.out.size))
      have z6 := below_cells hb9 z6
      have z14 := below_cells hb9 z14
      have yc9 := (hb9.block _ (lt_block YR.out.1)).trans YR.out.1
      have yn9 := (hb9.block _ (lt_block YR.out.2)).trans YR.out.2
      clear hb9 x1
      obtain ⟨bq, hbq⟩ : ∃ bq, bq = (decide (0 < n.vec.length) && (n.vec.length : Int) != g.dim) := ⟨_, rfl⟩
      rw [← hbq]
      have Y9 := Lib.hid (And.intro yc9 yn9)
      cases bq
      rotate_left
      · have HQ9 := Lib.hid hbq.symm
        have AZ := Lib.hid (show askZ g frm n stamp mark = ([(frm, resN 0 n.query 4 [])], g) by
          have h := HQ9.out
          simp only [Bool.and_eq_true, decide_eq_true_eq, bne_iff_ne, ne_eq] at h
          unfold askZ; rw [OD.out, if_neg (by simp), FN.out]; simp only; rw [if_pos h])
        have RS := Lib.hid (dresult frm n.query 0 4 [] (.slice none 0 0) (fun _ => False) wc (HitsF.nil _ _) (fun _ h => h.elim))
        clear hbq yc9 yn9 z14
        go_wp2_with fail
        with_reducible refine RS.out.mono ?_
        intro e w4 hN
        have FIN := Lib.hid (DTold.same (E := E) RG.out b9.out hN)
        obtain ⟨v3, rs3, G3, rfl, -⟩ := hN
        go_wp2_with fail
        go_ret
        rw [AZ.out]
        exact FIN.out
      have HQ9 := Lib.hid (show ¬ (0 < n.vec.length ∧ (n.vec.length : Int) ≠ g.dim) by
        intro h
        rw [decide_eq_true h.1, show ((n.vec.length : Int) != g.dim) = true from bne_iff_ne.2 h.2] at hbq
        cases hbq)
      clear hbq
      have x3 : wc.cell? ⟨c, 3, none⟩ = some (.slice p xs.length cap) := by rw [cells_get yc9 3]; rfl
      by_cases h8 : 8 ≤ xs.length
      · have h8' : (8 : Int) ≤ (xs.length : Int) := by omega
        have AZ := Lib.hid (show askZ g frm n stamp mark = ([(frm, resN 0 n.query 8 [])], g) by
          unfold askZ; rw [OD.out, if_neg (by simp), FN.out]; simp only; rw [if_neg HQ9.out, if_pos (by have := HXL.out; omega)])
        have RS := Lib.hid (dresult frm n.query 0 8 [] (.slice none 0 0) (fun _ => False) wc (HitsF.nil _ _) (fun _ h => h.elim))
        clear yc9 yn9 z14
        go_wp2_with fail
        with_reducible refine RS.out.mono ?_
        intro e w4 hN
        have FIN := Lib.hid (DTold.same (E := E) RG.out b9.out hN)
        obtain ⟨v3, rs3, G3, rfl, -⟩ := hN
        go_wp2_with fail
        go_ret
        rw [AZ.out]
        exact FIN.out
      have h8' : ¬ (8 : Int) ≤ (xs.length : Int) := by omega
      have AZ := Lib.hid (show askZ g frm n stamp mark = (looksZ (askQ g frm n stamp mark), {g with last := IntKind.u64.wrap (g.last + 1), l := g.l ++ [askQ g frm n stamp mark]}) by
        unfold askZ; rw [OD.out, if_neg (by simp), FN.out]; simp only; rw [if_neg HQ9.out, if_neg (by have := HXL.out; omega)])
      have H8 := Lib.hid h8
      have x2 : wc.cell? ⟨c, 2, none⟩ = some (.int .u64 g.last) := by rw [cells_get yc9 2]; rfl
      have f2 := thawed yc9 2
      have BWC := Lib.hid (b9.out.mono (Nat.le_refl _))
      clear yc9 yn9 h8
      go_upto_region 14 with fail
      obtain ⟨L, hL⟩ : ∃ L, L = IntKind.u64.wrap (g.last + 1) := ⟨_, rfl⟩
      rw [← hL] at AZ ⊢
      have HL := Lib.hid hL
      clear hL
      obtain ⟨W13, hW13⟩ : ∃ W13, W13 = (wc.setCell ⟨c, 2, none⟩ (.int .u64 L)).drew := ⟨_, rfl⟩
      have hcn : w.heap.size ≠ c := by omega
      have m13 : Mod (fun k => k = c) w W13 := by rw [hW13]; exact (Mod.setCell (F := fun k => k = c) (Mod.of_below b9.out) (p := ⟨c, 2, none⟩) (.inl rfl) _).andBelow (Below.refl _ _).drew
      have yc13 : W13.heap[c]? = some (.cells #[.int .i64 g.shards, .int .i64 g.dim, .int .u64 L, .slice p xs.length cap] 68 (0, 0)) := by rw [hW13]; exact set_block Y9.out.1 2 _
      have yn13 : W13.heap[w.heap.size]? = some (.cells NC 53 (0, 0)) := by rw [hW13]; exact set_other Y9.out.2 hcn 2 _
      have HW13 := Lib.hid hW13
      clear hW13 x2 f2 x3 z6 z14
      have z6 : W13.cell? ⟨w.heap.size, 6, none⟩ = some (.int .u64 n.query) := by rw [cells_get yn13 6, HNC.out]; rfl
      have z7 : W13.cell? ⟨w.heap.size, 7, none⟩ = some (.int .u64 n.id) := by rw [cells_get yn13 7, HNC.out]; rfl
      have z8 : W13.cell? ⟨w.heap.size, 8, none⟩ = some (.int .i64 n.k) := by rw [cells_get yn13 8, HNC.out]; rfl
      have z9 : W13.cell? ⟨w.heap.size, 9, none⟩ = some (.int .i64 n.ef) := by rw [cells_get yn13 9, HNC.out]; rfl
      have z14 : W13.cell? ⟨w.heap.size, 14, none⟩ = some (.slice p2 n.vec.length c2) := by rw [cells_get yn13 14, HNC.out]; rfl
      have c2L : W13.cell? ⟨c, 2, none⟩ = some (.int .u64 L) := by rw [cells_get yc13 2]; rfl
      have ba := (Below.refl W13.heap.size W13).alloc (Nat.le_refl _) (.cells #[.int .u8 0, .int .u64 0, .int .u64 0, .int .u64 0, .int .u64 0, .int .u64 0, .int .u64 0, .int .u64 0, .int .i64 0, .int .i64 0, .int .i64 0, .int .i64 0, .slice none 0 0, .slice none 0 0, .slice none 0 0, .slice none 0 0, .int .i64 0, .int .u64 0, .slice none 0 0] 108)
      have Y13 := Lib.hid (And.intro yc13 (And.intro yn13 m13))
      clear yc13 yn13 m13
      refine region_goN 20 (fun w' => w'.cell? ⟨c, 2, none⟩ = some (.int .u64 L) ∧ w'.cell? ⟨w.heap.size, 6, none⟩ = some (.int .u64 n.query) ∧ w'.cell? ⟨w.heap.size, 7, none⟩ = some (.int .u64 n.id) ∧ w'.cell? ⟨w.heap.size, 8, none⟩ = some (.int .i64 n.k) ∧ w'.cell? ⟨w.heap.size, 9, none⟩ = some (.int .i64 n.ef) ∧ w'.cell? ⟨w.heap.size, 14, none⟩ = some (.slice p2 n.vec.length c2)) (by kernel_rfl) ?hS0 (fun hH => ?_)
      case hS0 =>
        rw [← HW13.out]; exact ⟨c2L, z6, z7, z8, z9, z14⟩
      rw [← HW13.out] at hH ⊢
      refine kYN 0 hH ?_
      repeat simp only [Act.put, uA1, uB1, uC1]
      refine kYN 1 hH ?_
      repeat simp only [Act.put, uA1, uB1, uC1]
      refine kYN 2 hH ?_
      repeat simp only [Act.put, uA1, uB1, uC1]
      refine kYN 3 hH ?_
      repeat simp only [Act.put, uA1, uB1, uC1]
      refine kYN 4 hH ?_
      repeat simp only [Act.put, uA1, uB1, uC1]
      refine kYN 5 hH ?_
      repeat simp only [Act.put, uA1, uB1, uC1]
      refine kYN 6 hH ?_
      repeat simp only [Act.put, uA1, uB1, uC1]
      refine kYN 7 hH ?_
      repeat simp only [Act.put, uA1, uB1, uC1]
      refine kYN 8 hH ?_
      repeat simp only [Act.put, uA1, uB1, uC1]
      refine kYN 9 hH ?_
      repeat simp only [Act.put, uA1, uB1, uC1]
      refine kYN 10 hH ?_
      repeat simp only [Act.put, uA1, uB1, uC1]
      refine kYN 11 hH ?_
      repeat simp only [Act.put, uA1, uB1, uC1]
      refine kYN 12 hH ?_
      repeat simp only [Act.put, uA1, uB1, uC1]
      refine kYN 13 hH ?_
      repeat simp only [Act.put, uA1, uB1, uC1]
      refine kYN 14 hH ?_
      repeat simp only [Act.put, uA1, uB1, uC1]
      refine kYN 15 hH ?_
      repeat simp only [Act.put, uA1, uB1, uC1]
      refine kYN 16 hH ?_
      repeat simp only [Act.put, uA1, uB1, uC1]
      refine kYN 17 hH ?_
      repeat simp only [Act.put, uA1, uB1, uC1]
      refine kYN 18 hH ?_
      repeat simp only [Act.put, uA1, uB1, uC1]
      refine spkN 19 rfl (by decide) (by decide +kernel) (by rfl) (fun K' hK => ?_)
      go_simp
      try dsimp only
      refine hK.out _ _ ?hS (fun hH' => ?_)
      case hS =>
        exact ⟨below_cells ba c2L, below_cells ba z6, below_cells ba z7, below_cells ba z8, below_cells ba z9, below_cells ba z14⟩
      clear hK K' hH; have hH := hH'; clear hH'; repeat simp only [Act.put, uA1, uB1, uC1]
      refine spkL rfl (by decide +kernel) (by rfl) (fun K' hK => ?_)
      refine wp_store_row 108 _ _ rfl W13.heap.size #[.int .u8 9, .int .u64 0, .int .u64 0, .int .u64 stamp, .int .u64 0, .int .u64 mark, .int .u64 L, .int .u64 n.id, .int .i64 n.k, .int .i64 n.ef, .int .i64 0, .int .i64 0, .slice none 0 0, .slice none 0 0, .slice p2 n.vec.length c2, .slice none 0 0, .int .i64 frm, .int .u64 n.query, .slice none 0 0] (by rfl) (by rfl) 108 #[.int .u8 0, .int .u64 0, .int .u64 0, .int .u64 0, .int .u64 0, .int .u64 0, .int .u64 0, .int .u64 0, .int .i64 0, .int .i64 0, .int .i64 0, .int .i64 0, .slice none 0 0, .slice none 0 0, .slice none 0 0, .slice none 0 0, .int .i64 0, .int .u64 0, .slice none 0 0] (heap_alloc_new _ _) (by kernel_rfl) rfl (by simp [Value.oneCell']) ?_
      try dsimp only
      refine hK.out _ _ ?_
      clear hK K' hH; repeat simp only [Act.put, uA1, uB1, uC1]
      refine anyBut_done (by decide +kernel) ?_ _
      skip
      obtain ⟨W14, hW14⟩ : ∃ W14, W14 = (W13.alloc (.cells #[.int .u8 0, .int .u64 0, .int .u64 0, .int .u64 0, .int .u64 0, .int .u64 0, .int .u64 0, .int .u64 0, .int .i64 0, .int .i64 0, .int .i64 0, .int .i64 0, .slice none 0 0, .slice none 0 0, .slice none 0 0, .slice none 0 0, .int .i64 0, .int .u64 0, .slice none 0 0] 108)).setRow W13.heap.size #[.int .u8 9, .int .u64 0, .int .u64 0, .int .u64 stamp, .int .u64 0, .int .u64 mark, .int .u64 L, .int .u64 n.id, .int .i64 n.k, .int .i64 n.ef, .int .i64 0, .int .i64 0, .slice none 0 0, .slice none 0 0, .slice p2 n.vec.length c2, .slice none 0 0, .int .i64 frm, .int .u64 n.query, .slice none 0 0] := ⟨_, rfl⟩
      rw [← hW14]
      obtain ⟨QV, hQV⟩ : ∃ QV : Array Value, QV = #[.int .u8 9, .int .u64 0, .int .u64 0, .int .u64 stamp, .int .u64 0, .int .u64 mark, .int .u64 L, .int .u64 n.id, .int .i64 n.k, .int .i64 n.ef, .int .i64 0, .int .i64 0, .slice none 0 0, .slice none 0 0, .slice p2 n.vec.length c2, .slice none 0 0, .int .i64 frm, .int .u64 n.query, .slice none 0 0] := ⟨_, rfl⟩
      have y14 : W14.heap[W13.heap.size]? = some (.cells QV 108 (0, 0)) := by rw [hW14, hQV]; exact setRow_heap _ _ _ _ _ _ (heap_alloc_new _ _)
      have b14 : Below W13.heap.size W13 W14 := by rw [hW14]; exact below_setRow ((Below.refl _ _).alloc (Nat.le_refl _) _) (Nat.le_refl _) _
      have hs13 : w.heap.size < W13.heap.size := lt_block Y13.out.2.1
      have hcq : c ≠ W13.heap.size := by omega
      have P14 := Lib.hid (DPart.start y14 (by rw [hQV]; rfl))
      have Y14 := Lib.hid (And.intro (Y13.out.2.2.andBelow b14) (And.intro ((b14.block _ (lt_block Y13.out.1)).trans Y13.out.1) ((b14.block _ (lt_block Y13.out.2.1)).trans Y13.out.2.1)))
      have HQV := Lib.hid hQV
      have hq14 := lt_block y14
      have z7 := below_cells b14 z7
      have z14 := below_cells b14 z14
      obtain ⟨sn, hsn, hs4⟩ : ∃ sn : Nat, (sn : Int) = g.shards ∧ sn ≤ 4 := ⟨g.shards.toNat, by have := OK.out.shards; omega, by have := OK.out.shards; omega⟩
      have c0s : W14.cell? ⟨c, 0, none⟩ = some (.int .i64 sn) := by rw [cells_get Y14.out.2.1 0, hsn]; rfl
      have HSN := Lib.hid hsn
      clear hW14 hQV y14 b14 z6 z8 z9 c2L ba hsn
      go_wp2_with fail
      go_loopg [14] sn (fun q i wp => ∃ (k : Nat) (pv : Value), q = sn - k ∧ k ≤ sn ∧ i = .int .i64 ((k : Int) + 1) ∧ DPart W14 wp W13.heap.size QV (docP n sn k) pv)
      case atStart => exact ⟨0, _, rfl, by omega, rfl, P14.out⟩
      case round =>
        obtain ⟨k, pv, rfl, hk, rfl, hP⟩ := hrel
        have PM := Lib.hid hP
        have ycw := (hP.mod.block c (lt_block Y14.out.2.1) hcq).trans Y14.out.2.1
        have ynw := (hP.mod.block w.heap.size (lt_block Y14.out.2.2) (by omega)).trans Y14.out.2.2
        have c0w : wr.cell? ⟨c, 0, none⟩ = some (.int .i64 sn) := by rw [cells_get ycw 0, HSN.out]; rfl
        have z14w : wr.cell? ⟨w.heap.size, 14, none⟩ = some (.slice p2 n.vec.length c2) := by rw [cells_get ynw 14, HNC.out]; rfl
        have z7w : wr.cell? ⟨w.heap.size, 7, none⟩ = some (.int .u64 n.id) := by rw [cells_get ynw 7, HNC.out]; rfl
        obtain ⟨pq, pm, pc, rfl⟩ := own_form hP.own
        have q18 : wr.cell? ⟨W13.heap.size, 18, none⟩ = some (.slice pq pm pc) := by rw [cells_get hP.blk 18, HQV.out]; rfl
        have f18 := thawed hP.blk 18
        have YW := Lib.hid (And.intro ycw ynw)
        clear hP ycw ynw z7 z14 c0s
        by_cases hlt : k < sn
        · skip
          --<<
          have hki : (k : Int) + 1 ≤ (sn : Int) := by omega
          have hkw : IntKind.i64.wrap (k : Int) = (k : Int) := by simp only [IntKind.wrap, IntKind.bits, IntKind.signed]; simp; omega
          have hkw1 : IntKind.i64.wrap ((k : Int) + 1 - 1) = (k : Int) := by rw [Int.add_sub_cancel]; exact hkw
          go_upto_region 18 with fail
          go_cut [135] (fun s135 we => s135 = .bool (decide (0 < n.vec.length) || homeZ n.id sn == (k : Int)) ∧ Below wr.heap.size wr we)
          case first =>
            clear q18 f18
            obtain ⟨Wd, hWd⟩ : ∃ Wd, Wd = wr.drew := ⟨_, rfl⟩
            have bd : Below wr.heap.size wr Wd := by rw [hWd]; exact (Below.refl _ _).drew
            have HWd := Lib.hid hWd
            clear hWd
            by_cases hv0 : 0 < n.vec.length
            · have d0 : decide ((0 : Int) < (n.vec.length : Int)) = true := decide_eq_true (by omega)
              have d1 : decide (0 < n.vec.length) = true := decide_eq_true hv0
              have VB := Lib.hid hv0
              clear hv0
              refine region_go (fun w' => w'.cell? ⟨w.heap.size, 14, none⟩ = some (.slice p2 n.vec.length c2) ∧ w'.cell? ⟨w.heap.size, 7, none⟩ = some (.int .u64 n.id) ∧ w'.cell? ⟨c, 0, none⟩ = some (.int .i64 sn)) (by kernel_rfl) ?hS0 (fun hH => ?_)
              case hS0 =>
                rw [← HWd.out]; exact ⟨below_cells bd z14w, below_cells bd z7w, below_cells bd c0w⟩
              rw [← HWd.out] at hH ⊢
              refine kY 0 hH ?_
              repeat simp only [Act.put, uA1, uB1, uC1]
              refine kY 1 hH ?_
              repeat simp only [Act.put, uA1, uB1, uC1]
              refine kY 2 hH ?_
              repeat simp only [Act.put, uA1, uB1, uC1]
              refine kY 3 hH ?_
              repeat simp only [Act.put, uA1, uB1, uC1]
              refine kY 4 hH ?_
              repeat simp only [Act.put, uA1, uB1, uC1]
              refine kN 5 hH ?_
              repeat simp only [Act.put, uA1, uB1, uC1]
              refine kN 6 hH ?_
              repeat simp only [Act.put, uA1, uB1, uC1]
              refine kN 7 hH ?_
              repeat simp only [Act.put, uA1, uB1, uC1]
              refine kN 8 hH ?_
              repeat simp only [Act.put, uA1, uB1, uC1]
              refine kN 9 hH ?_
              repeat simp only [Act.put, uA1, uB1, uC1]
              refine kN 10 hH ?_
              repeat simp only [Act.put, uA1, uB1, uC1]
              refine kN 12 hH ?_
              repeat simp only [Act.put, uA1, uB1, uC1]
              refine kN 13 hH ?_
              repeat simp only [Act.put, uA1, uB1, uC1]
              refine kN 11 hH ?_
              repeat simp only [Act.put, uA1, uB1, uC1]
              refine kN 14 hH ?_
              repeat simp only [Act.put, uA1, uB1, uC1]
              refine kY 15 hH ?_
              repeat simp only [Act.put, uA1, uB1, uC1]
              refine wpAnyH_done (by decide +kernel) ?_ _
              go_wp2_with fail
              go_meet
              exact ⟨by simp [VB.out], bd⟩
            · have d0 : decide ((0 : Int) < (n.vec.length : Int)) = false := decide_eq_false (by omega)
              have d1 : decide (0 < n.vec.length) = false := decide_eq_false hv0
              have VB := Lib.hid hv0
              clear hv0
              refine region_go (fun w' => w'.cell? ⟨w.heap.size, 14, none⟩ = some (.slice p2 n.vec.length c2) ∧ w'.cell? ⟨w.heap.size, 7, none⟩ = some (.int .u64 n.id) ∧ w'.cell? ⟨c, 0, none⟩ = some (.int .i64 sn)) (by kernel_rfl) ?hS0 (fun hH => ?_)
              case hS0 =>
                rw [← HWd.out]; exact ⟨below_cells bd z14w, below_cells bd z7w, below_cells bd c0w⟩
              rw [← HWd.out] at hH ⊢
              refine kY 0 hH ?_
              repeat simp only [Act.put, uA1, uB1, uC1]
              refine kY 1 hH ?_
              repeat simp only [Act.put, uA1, uB1, uC1]
              refine kY 2 hH ?_
              repeat simp only [Act.put, uA1, uB1, uC1]
              refine kY 3 hH ?_
              repeat simp only [Act.put, uA1, uB1, uC1]
              refine kY 4 hH ?_
              repeat simp only [Act.put, uA1, uB1, uC1]
              refine kY 5 hH ?_
              repeat simp only [Act.put, uA1, uB1, uC1]
              refine kY 6 hH ?_
              repeat simp only [Act.put, uA1, uB1, uC1]
              refine kY 7 hH ?_
              repeat simp only [Act.put, uA1, uB1, uC1]
              refine kY 8 hH ?_
              repeat simp only [Act.put, uA1, uB1, uC1]
              refine kY 9 hH ?_
              repeat simp only [Act.put, uA1, uB1, uC1]
              refine kY 10 hH ?_
              repeat simp only [Act.put, uA1, uB1, uC1]
              refine kY 12 hH ?_
              repeat simp only [Act.put, uA1, uB1, uC1]
              refine kY 13 hH ?_
              repeat simp only [Act.put, uA1, uB1, uC1]
              refine spk 11 rfl (by decide +kernel) (by rfl) (fun K' hK => ?_)
              go_simp
              with_reducible refine (refHome_yes n.id sn _ (by omega) (by omega)).mono ?_
              rintro e w' ⟨rfl, rfl⟩
              try dsimp only
              refine hK.out _ _ ?hS (fun hH' => ?_)
              case hS =>
                exact hH
              clear hK K' hH; have hH := hH'; clear hH'; repeat simp only [Act.put, uA1, uB1, uC1]
              refine kY 14 hH ?_
              repeat simp only [Act.put, uA1, uB1, uC1]
              refine kY 15 hH ?_
              repeat simp only [Act.put, uA1, uB1, uC1]
              refine wpAnyH_done (by decide +kernel) ?_ _
              go_wp2_with fail
              go_meet
              exact ⟨by simp [VB.out], bd⟩
          case rest =>
          obtain ⟨rfl, hbe⟩ := hcut
          have PE := Lib.hid (PM.out.below hbe)
          have DS := Lib.hid (docP_succ n sn k)
          have q18 := below_cells hbe q18
          have f18 := thawed PE.out.blk 18
          have hq18 : W13.heap.size < wc.heap.size := lt_block PE.out.blk
          obtain ⟨bb, hbb⟩ : ∃ bb, bb = (decide (0 < n.vec.length) || homeZ n.id sn == (k : Int)) := ⟨_, rfl⟩
          rw [← hbb] at DS ⊢
          clear hbb hbe z14w z7w c0w
          cases bb
          · rw [if_neg (by simp), List.append_nil] at DS
            go_wp2_with fail
            go_roundg (sn - (k + 1))
            case measure => omega
            case rel => exact ⟨k + 1, _, rfl, by omega, by go_num, by rw [DS.out]; exact PE.out⟩
          · rw [if_pos rfl] at DS
            obtain ⟨g6, c6, w6, hrun, hown6, hg6, hat6, hlt6⟩ := run_push rowPart PE.out.own PE.out.mod.size #[.int .i64 ((k : Int) + 1), .bool false, .slice none 0 0] rfl (by simp [Value.oneCell']) (by have := docP_len n sn k; simp [maxLen]; omega) (by have := docP_len n sn k; omega)
            have hb6 : w6.heap[W13.heap.size]? = wc.heap[W13.heap.size]? := by
              rw [hg6.block _ (by rw [World.size_alloc]; omega) (fun e => by have := (PE.out.own.lt _ e.symm).1; omega)]
              exact Below.heap_alloc wc _ _ hq18
            have q18' := (World.cell?_of_block (a := ⟨W13.heap.size, 18, none⟩) hb6).trans q18
            have f18' := thawed (hb6.trans PE.out.blk) 18
            have NX := Lib.hid (PE.out.step hq14 hg6 hown6)
            rw [← DS.out] at NX
            clear hown6 hg6 hat6 hlt6 hb6
            go_wp2_with (with_reducible refine wpList_append_eq hrun rfl _ _ rfl rfl rfl ?_)
            go_roundg (sn - (k + 1))
            case measure => omega
            case rel => exact ⟨k + 1, _, rfl, by omega, by go_num, NX.out⟩
          -->>
        · have hki : ¬ (k : Int) + 1 ≤ (sn : Int) := by omega
          obtain rfl : k = sn := by omega
          obtain ⟨QP, hQP⟩ : ∃ QP, QP = QV.setIfInBounds 18 (.slice pq pm pc) := ⟨_, rfl⟩
          obtain ⟨aq, haq⟩ : ∃ aq, aq = askQ g frm n stamp mark := ⟨_, rfl⟩
          obtain ⟨dq, hdq⟩ : ∃ dq : Dq, dq = ⟨.slice none 0 0, .slice none 0 0, .slice p2 n.vec.length c2, .slice none 0 0, .slice pq pm pc⟩ := ⟨_, rfl⟩
          rw [← haq] at AZ
          have hnote : aq.note = ⟨9, 0, 0, stamp, 0, mark, L, n.id, n.k, n.ef, 0, 0, [], [], n.vec, []⟩ := by rw [haq, HL.out]; exact ask_note RN.out HK.out FT.out
          have QE := Lib.hid (show QP.toList = dqCells (aq, dq) by
            rw [hQP, HQV.out, hdq]
            unfold dqCells
            rw [hnote, haq]
            rfl)
          have PA := Lib.hid (show aq.parts = docP n k k by
            have h := docP_all g n frm stamp mark OK.out.shards.1
            rw [← HSN.out, Int.toNat_natCast] at h
            rw [haq]; exact h.symm)
          have MW := Lib.hid (show Mod (fun j => j = c) w wr from Y14.out.1.trans PM.out.mod (fun j hj (e : j = _) => by omega))
          have FE := Lib.hid (show ∀ j, F j ∨ E j → j < w.heap.size ∧ j ≠ c from fun j hj => hj.elim (HX.out.2.2 j) (EE.out j))
          have DQ := Lib.hid (show DqAt wr (Plus (fun j => F j ∨ E j) w wr) aq dq by
            have hA : Agree E w wr := Agree.of_mod MW.out (fun j hj => (EE.out j hj).1) (fun j hj => (EE.out j hj).2)
            have hp := PM.out.parts PA.out (by rw [haq]; rfl)
            rw [hdq]
            refine ⟨?_, hp.mono fun j hj => .inr ⟨by have := Y14.out.1.size; omega, hj.2⟩⟩
            rw [hnote]
            exact ⟨⟨Nums.nil _ _, RecsF.nil _ _, VV.out.read.vec.agree VV.out.vec hA, HitsF.nil _ _⟩, fun h => absurd h (by simp), VV.out.vec.mono fun j hj => .inl (.inr hj)⟩)
          have yq : wr.heap[W13.heap.size]? = some (.cells QP 108 (0, 0)) := by rw [hQP]; exact PM.out.blk
          have QS : QP.size = 19 := by rw [hQP, HQV.out]; rfl
          have FO := Lib.hid (show Array.foldl (fun (cs : Array Value) (x : Value × Nat) => cs.setIfInBounds x.snd x.fst) #[.int .u8 0, .int .u64 0, .int .u64 0, .int .u64 0, .int .u64 0, .int .u64 0, .int .u64 0, .int .u64 0, .int .i64 0, .int .i64 0, .int .i64 0, .int .i64 0, .slice none 0 0, .slice none 0 0, .slice none 0 0, .slice none 0 0, .int .i64 0, .int .u64 0, .slice none 0 0] QP.zipIdx 0 19 = QP from fold_zip _ _ _ (by rw [QS]; rfl) QS)
          have SZQ : (Tryd.prog.info? 108).map (·.size) = some QP.size := by rw [QS]; kernel_rfl
          have x3 : wr.cell? ⟨c, 3, none⟩ = some (.slice p xs.length cap) := by rw [cells_get YW.out.1 3]; rfl
          have QO := Lib.hid (show ∀ u ∈ QP.toList, u.oneCell' = true by rw [QE.out]; exact DQ.out.one)
          have SR := Lib.hid (show SrcAt wr p xs.length cap 19 (flatU dqCells xs) from HD.out.src.agreeF (Agree.of_mod MW.out (fun j hj => (HX.out.2.2 j hj).1) (fun j hj => (HX.out.2.2 j hj).2)) (HD.out.place))
          have ON1 := Lib.hid HD.out.ones
          have X8 := Lib.hid (show xs.length ≤ 8 by have := H8.out; omega)
          have YQ := Lib.hid yq
          have SQ := Lib.hid SZQ
          clear hQP haq hdq hnote q18 f18 z14w z7w hk h8'
          go_upto_region 20 with fail
          clear hki c0w hs4
          go_cut [13] (fun s13 wc => s13 = .pointer (some ⟨W13.heap.size, 0, none⟩) ∧ wc.heap[W13.heap.size]? = some (.cells QP 108 (0, 0)) ∧ RefG wc c (Plus (fun j => F j ∨ E j) w wc) {g with last := L, l := g.l ++ [aq]} ∧ Mod (fun j => j = c) w wc ∧ DqAt wc (Plus (fun j => F j ∨ E j) w wc) aq dq)
          case first =>
            obtain ⟨W20, hW20⟩ : ∃ W20, W20 = wr.drew := ⟨_, rfl⟩
            have b0 : Below wr.heap.size wr W20 := by rw [hW20]; exact (Below.refl _ _).drew
            have HW20 := Lib.hid hW20
            have hsr := b0.size
            have SR2 := Lib.hid (SR.out.below b0)
            have hbd := Below.refl W20.heap.size W20
            have c1 := below_cells b0 x3
            have hq1 : W20.heap[W13.heap.size]? = some (.cells QP 108 (0, 0)) := (b0.block _ (lt_block yq)).trans yq
            have hx8 := X8.out
            have hql := lt_block hq1
            have B0 := Lib.hid b0
            clear hW20 b0 x3 yq
            refine region_goN 12 (fun w' => w'.cell? ⟨c, 3, none⟩ = some (.slice p xs.length cap) ∧ w'.heap[W13.heap.size]? = some (.cells QP 108 (0, 0))) (by kernel_rfl) ?hS0 (fun hH => ?_)
            case hS0 =>
              rw [← HW20.out]; exact ⟨c1, hq1⟩
            rw [← HW20.out] at hH ⊢
            refine kYN 0 hH ?_
            repeat simp only [Act.put, uA1, uB1, uC1]
            refine kYN 2 hH ?_
            repeat simp only [Act.put, uA1, uB1, uC1]
            refine kYN 3 hH ?_
            repeat simp only [Act.put, uA1, uB1, uC1]
            refine kYN 4 hH ?_
            repeat simp only [Act.put, uA1, uB1, uC1]
            refine kYN 5 hH ?_
            repeat simp only [Act.put, uA1, uB1, uC1]
            refine kYN 7 hH ?_ (v := (.agg QP)) (hy := by intro w hS; exact load_row_yields 108 _ rfl W13.heap.size (by rfl) 108 QP (0, 0) _ hS.2 Tryd.underlying108 rfl SZQ)
            repeat simp only [Act.put, uA1, uB1, uC1]
            refine spBN 1 8 rfl rfl (by decide) (by decide) ?hr ?hw ?hv (fun K' hK => ?b1_1) (fun K' hK => ?b2_1)
            case hr => decide +kernel
            case hw => rfl
            case hv => rfl
            case b1_1 =>
              go_simp
              have hr0 := own_empty _ W20.heap.size 108 19 hbd.size
              try rw [show (W20.alloc (.cells QP 108)).heap.size = W20.heap.size + 1 from by simp] at hr0
              try have hne9 := Nat.ne_of_lt (lt_block he9)
              try replace he9 := (heap_alloc_old _ (.cells #[] 108) (lt_block he9)).trans he9
              replace hbd := hbd.alloc hbd.size (.cells #[] 108)
              try dsimp only
              refine hK.out _ _ ?hS (fun hH' => ?_)
              case hS =>
                exact ⟨below_cells hbd c1, (hbd.block _ hql).trans hq1⟩
              clear hK K' hH; have hH := hH'; clear hH'; repeat simp only [Act.put, uA1, uB1, uC1]
              refine spBN 6 8 rfl rfl (by decide) (by decide) ?hr ?hw ?hv (fun K' hK => ?b1_2) (fun K' hK => ?b2_2)
              case hr => decide +kernel
              case hw => rfl
              case hv => rfl
              case b1_2 =>
                obtain ⟨q2, n2, k2, w20, hrun2, hr2, hg2, -⟩ := run_app rowDQ hr0 hbd.size (SR2.out.below hbd) ON1.out (by simp [maxLen]; omega) (by omega)
                refine wp_append_eq hrun2 _ _ rfl rfl rfl ?_
                try replace he9 := (hg2.block _ (lt_block he9) (by intro e; simp only [Value.ownBlock, Option.some.injEq] at e; first | exact hne9 e | omega)).trans he9
                replace hbd := hbd.grown hg2 hbd.size (fun b hb => (hr0.lt b hb).1)
                simp only [Nat.zero_add, List.nil_append] at hr2
                clear hrun2 hg2 hr0
                try dsimp only
                refine hK.out _ _ ?hS (fun hH' => ?_)
                case hS =>
                  exact ⟨below_cells hbd c1, (hbd.block _ hql).trans hq1⟩
                clear hK K' hH; have hH := hH'; clear hH'; repeat simp only [Act.put, uA1, uB1, uC1]
                refine spkN 8 rfl (by decide) (by decide +kernel) (by rfl) (fun K' hK => ?_)
                go_simp
                try rw [FO.out]
                have he9 := (fun {W : World} (_ : Below W20.heap.size W20 W) => heap_alloc_new W (.cells QP 108)) hbd
                try rw [show (W20.alloc (.cells #[] 108)).heap.size = W20.heap.size + 1 from by simp] at he9
                try have hne9 := (Nat.ne_of_lt (hr0.lt _ rfl).2).symm
                try replace hr0 := hr0.alloc (.cells QP 108)
                try replace hr2 := hr2.alloc (.cells QP 108)
                replace hbd := hbd.alloc hbd.size (.cells QP 108)
                try dsimp only
                refine hK.out _ _ ?hS (fun hH' => ?_)
                case hS =>
                  exact ⟨below_cells hbd c1, (hbd.block _ hql).trans hq1⟩
                clear hK K' hH; have hH := hH'; clear hH'; repeat simp only [Act.put, uA1, uB1, uC1]
                refine spkN 9 rfl (by decide) (by decide +kernel) (by rfl) (fun K' hK => ?_)
                obtain ⟨g5, c5, w5, hrun5, hown5, hg5, hat5, hlt5⟩ := run_push_at rowDQ hr2 hbd.size he9 QS QO.out (by simp [maxLen]; omega) (by omega)
                refine wp_append_eq hrun5 _ _ rfl rfl rfl ?_
                replace hbd := hbd.grown hg5 hbd.size (fun b hb => (hr2.lt b hb).1)
                have y5 := (hbd.block _ (Nat.lt_of_lt_of_le (lt_block YW.out.1) hsr)).trans ((B0.out.block _ (lt_block YW.out.1)).trans YW.out.1)
                have y1 := below_cells hbd c1
                have yf := thawed y5 3
                have M5 := MW.out.andBelow (B0.out.trans (hbd.mono hsr))
                have D5 := (DQ.out.below (B0.out.trans (hbd.mono hsr))).mono (G := Plus (fun j => F j ∨ E j) w w5) (fun j hj => hj.imp id (fun h => ⟨h.1, Nat.lt_of_lt_of_le h.2 (Nat.le_trans hsr hbd.size)⟩))
                have A := Lib.hid (RefG.added HX.out.1 FE.out hcs (fun x hx => (HD.out.each x hx).mono fun j hj => .inl hj) M5 y5 QE.out (Nat.le_trans MW.out.size hsr) D5 hown5)
                have NB := Lib.hid (And.intro ((hbd.block _ hql).trans hq1) D5)
                clear hrun5 hown5 hg5 hat5 hlt5 M5 D5 y5
                try dsimp only
                refine hK.out _ _ ?hS (fun hH' => ?_)
                case hS =>
                  exact ⟨below_cells hbd c1, (hbd.block _ hql).trans hq1⟩
                clear hK K' hH; have hH := hH'; clear hH'; repeat simp only [Act.put, uA1, uB1, uC1]
                refine spkN 10 rfl (by decide) (by decide +kernel) (by rfl) (fun K' hK => ?_)
                go_simp
                try dsimp only
                refine hK.out _ _ ?hS (fun hH' => ?_)
                case hS =>
                  exact ⟨below_cells hbd c1, (hbd.block _ hql).trans hq1⟩
                clear hK K' hH; have hH := hH'; clear hH'; repeat simp only [Act.put, uA1, uB1, uC1]
                refine kYN 11 hH ?_
                repeat simp only [Act.put, uA1, uB1, uC1]
                refine spkL rfl (by decide +kernel) (by rfl) (fun K' hK => ?_)
                go_simp
                try dsimp only
                refine hK.out _ _ ?_
                clear hK K' hH; repeat simp only [Act.put, uA1, uB1, uC1]
                refine anyBut_done (by decide +kernel) ?_ _
                go_wp2_with fail
                go_meet
                have hne : ∀ j, Plus (fun j => F j ∨ E j) w w5 j → j ≠ c := fun j hj => hj.elim (fun h => (FE.out j h).2) (fun h => by omega)
                refine ⟨rfl, set_other NB.out.1 (by omega) 3 _, A.out.1, A.out.2, (NB.out.2.agree (w' := w5.setCell ⟨c, 3, none⟩ _) fun j hj => Below.heap_setCell _ _ _ _ (hne j hj)).mono fun j hj => hj.imp id (fun h => ⟨h.1, by simp [World.setCell]; exact h.2⟩)⟩
              case b2_2 =>
                go_simp
                try rw [FO.out]
                have he9 := (fun {W : World} (_ : Below W20.heap.size W20 W) => heap_alloc_new W (.cells QP 108)) hbd
                try rw [show (W20.alloc (.cells #[] 108)).heap.size = W20.heap.size + 1 from by simp] at he9
                try have hne9 := (Nat.ne_of_lt (hr0.lt _ rfl).2).symm
                try replace hr0 := hr0.alloc (.cells QP 108)
                try replace hr2 := hr2.alloc (.cells QP 108)
                replace hbd := hbd.alloc hbd.size (.cells QP 108)
                try dsimp only
                refine hK.out _ _ ?hS (fun hH' => ?_)
                case hS =>
                  exact ⟨below_cells hbd c1, (hbd.block _ hql).trans hq1⟩
                clear hK K' hH; have hH := hH'; clear hH'; repeat simp only [Act.put, uA1, uB1, uC1]
                refine spkN 6 rfl (by decide) (by decide +kernel) (by rfl) (fun K' hK => ?_)
                obtain ⟨q2, n2, k2, w20, hrun2, hr2, hg2, -⟩ := run_app rowDQ hr0 hbd.size (SR2.out.below hbd) ON1.out (by simp [maxLen]; omega) (by omega)
                refine wp_append_eq hrun2 _ _ rfl rfl rfl ?_
                try replace he9 := (hg2.block _ (lt_block he9) (by intro e; simp only [Value.ownBlock, Option.some.injEq] at e; first | exact hne9 e | omega)).trans he9
                replace hbd := hbd.grown hg2 hbd.size (fun b hb => (hr0.lt b hb).1)
                simp only [Nat.zero_add, List.nil_append] at hr2
                clear hrun2 hg2 hr0
                try dsimp only
                refine hK.out _ _ ?hS (fun hH' => ?_)
                case hS =>
                  exact ⟨below_cells hbd c1, (hbd.block _ hql).trans hq1⟩
                clear hK K' hH; have hH := hH'; clear hH'; repeat simp only [Act.put, uA1, uB1, uC1]
                refine spkN 9 rfl (by decide) (by decide +kernel) (by rfl) (fun K' hK => ?_)
                obtain ⟨g5, c5, w5, hrun5, hown5, hg5, hat5, hlt5⟩ := run_push_at rowDQ hr2 hbd.size he9 QS QO.out (by simp [maxLen]; omega) (by omega)
                refine wp_append_eq hrun5 _ _ rfl rfl rfl ?_
                replace hbd := hbd.grown hg5 hbd.size (fun b hb => (hr2.lt b hb).1)
                have y5 := (hbd.block _ (Nat.lt_of_lt_of_le (lt_block YW.out.1) hsr)).trans ((B0.out.block _ (lt_block YW.out.1)).trans YW.out.1)
                have y1 := below_cells hbd c1
                have yf := thawed y5 3
                have M5 := MW.out.andBelow (B0.out.trans (hbd.mono hsr))
                have D5 := (DQ.out.below (B0.out.trans (hbd.mono hsr))).mono (G := Plus (fun j => F j ∨ E j) w w5) (fun j hj => hj.imp id (fun h => ⟨h.1, Nat.lt_of_lt_of_le h.2 (Nat.le_trans hsr hbd.size)⟩))
                have A := Lib.hid (RefG.added HX.out.1 FE.out hcs (fun x hx => (HD.out.each x hx).mono fun j hj => .inl hj) M5 y5 QE.out (Nat.le_trans MW.out.size hsr) D5 hown5)
                have NB := Lib.hid (And.intro ((hbd.block _ hql).trans hq1) D5)
                clear hrun5 hown5 hg5 hat5 hlt5 M5 D5 y5
                try dsimp only
                refine hK.out _ _ ?hS (fun hH' => ?_)
                case hS =>
                  exact ⟨below_cells hbd c1, (hbd.block _ hql).trans hq1⟩
                clear hK K' hH; have hH := hH'; clear hH'; repeat simp only [Act.put, uA1, uB1, uC1]
                refine spkN 10 rfl (by decide) (by decide +kernel) (by rfl) (fun K' hK => ?_)
                go_simp
                try dsimp only
                refine hK.out _ _ ?hS (fun hH' => ?_)
                case hS =>
                  exact ⟨below_cells hbd c1, (hbd.block _ hql).trans hq1⟩
                clear hK K' hH; have hH := hH'; clear hH'; repeat simp only [Act.put, uA1, uB1, uC1]
                refine kYN 11 hH ?_
                repeat simp only [Act.put, uA1, uB1, uC1]
                refine spkL rfl (by decide +kernel) (by rfl) (fun K' hK => ?_)
                go_simp
                try dsimp only
                refine hK.out _ _ ?_
                clear hK K' hH; repeat simp only [Act.put, uA1, uB1, uC1]
                refine anyBut_done (by decide +kernel) ?_ _
                go_wp2_with fail
                go_meet
                have hne : ∀ j, Plus (fun j => F j ∨ E j) w w5 j → j ≠ c := fun j hj => hj.elim (fun h => (FE.out j h).2) (fun h => by omega)
                refine ⟨rfl, set_other NB.out.1 (by omega) 3 _, A.out.1, A.out.2, (NB.out.2.agree (w' := w5.setCell ⟨c, 3, none⟩ _) fun j hj => Below.heap_setCell _ _ _ _ (hne j hj)).mono fun j hj => hj.imp id (fun h => ⟨h.1, by simp [World.setCell]; exact h.2⟩)⟩
            case b2_1 =>
              go_simp
              try rw [FO.out]
              have he9 := (fun {W : World} (_ : Below W20.heap.size W20 W) => heap_alloc_new W (.cells QP 108)) hbd
              try rw [show (W20.alloc (.cells #[] 108)).heap.size = W20.heap.size + 1 from by simp] at he9
              try have hne9 := (Nat.ne_of_lt (hr0.lt _ rfl).2).symm
              try replace hr0 := hr0.alloc (.cells QP 108)
              try replace hr2 := hr2.alloc (.cells QP 108)
              replace hbd := hbd.alloc hbd.size (.cells QP 108)
              try dsimp only
              refine hK.out _ _ ?hS (fun hH' => ?_)
              case hS =>
                exact ⟨below_cells hbd c1, (hbd.block _ hql).trans hq1⟩
              clear hK K' hH; have hH := hH'; clear hH'; repeat simp only [Act.put, uA1, uB1, uC1]
              refine spkN 1 rfl (by decide) (by decide +kernel) (by rfl) (fun K' hK => ?_)
              go_simp
              have hr0 := own_empty _ W20.heap.size 108 19 hbd.size
              try rw [show (W20.alloc (.cells QP 108)).heap.size = W20.heap.size + 1 from by simp] at hr0
              try have hne9 := Nat.ne_of_lt (lt_block he9)
              try replace he9 := (heap_alloc_old _ (.cells #[] 108) (lt_block he9)).trans he9
              replace hbd := hbd.alloc hbd.size (.cells #[] 108)
              try dsimp only
              refine hK.out _ _ ?hS (fun hH' => ?_)
              case hS =>
                exact ⟨below_cells hbd c1, (hbd.block _ hql).trans hq1⟩
              clear hK K' hH; have hH := hH'; clear hH'; repeat simp only [Act.put, uA1, uB1, uC1]
              refine spkN 6 rfl (by decide) (by decide +kernel) (by rfl) (fun K' hK => ?_)
              obtain ⟨q2, n2, k2, w20, hrun2, hr2, hg2, -⟩ := run_app rowDQ hr0 hbd.size (SR2.out.below hbd) ON1.out (by simp [maxLen]; omega) (by omega)
              refine wp_append_eq hrun2 _ _ rfl rfl rfl ?_
              try replace he9 := (hg2.block _ (lt_block he9) (by intro e; simp only [Value.ownBlock, Option.some.injEq] at e; first | exact hne9 e | omega)).trans he9
              replace hbd := hbd.grown hg2 hbd.size (fun b hb => (hr0.lt b hb).1)
              simp only [Nat.zero_add, List.nil_append] at hr2
              clear hrun2 hg2 hr0
              try dsimp only
              refine hK.out _ _ ?hS (fun hH' => ?_)
              case hS =>
                exact ⟨below_cells hbd c1, (hbd.block _ hql).trans hq1⟩
              clear hK K' hH; have hH := hH'; clear hH'; repeat simp only [Act.put, uA1, uB1, uC1]
              refine spkN 9 rfl (by decide) (by decide +kernel) (by rfl) (fun K' hK => ?_)
              obtain ⟨g5, c5, w5, hrun5, hown5, hg5, hat5, hlt5⟩ := run_push_at rowDQ hr2 hbd.size he9 QS QO.out (by simp [maxLen]; omega) (by omega)
              refine wp_append_eq hrun5 _ _ rfl rfl rfl ?_
              replace hbd := hbd.grown hg5 hbd.size (fun b hb => (hr2.lt b hb).1)
              have y5 := (hbd.block _ (Nat.lt_of_lt_of_le (lt_block YW.out.1) hsr)).trans ((B0.out.block _ (lt_block YW.out.1)).trans YW.out.1)
              have y1 := below_cells hbd c1
              have yf := thawed y5 3
              have M5 := MW.out.andBelow (B0.out.trans (hbd.mono hsr))
              have D5 := (DQ.out.below (B0.out.trans (hbd.mono hsr))).mono (G := Plus (fun j => F j ∨ E j) w w5) (fun j hj => hj.imp id (fun h => ⟨h.1, Nat.lt_of_lt_of_le h.2 (Nat.le_trans hsr hbd.size)⟩))
              have A := Lib.hid (RefG.added HX.out.1 FE.out hcs (fun x hx => (HD.out.each x hx).mono fun j hj => .inl hj) M5 y5 QE.out (Nat.le_trans MW.out.size hsr) D5 hown5)
              have NB := Lib.hid (And.intro ((hbd.block _ hql).trans hq1) D5)
              clear hrun5 hown5 hg5 hat5 hlt5 M5 D5 y5
              try dsimp only
              refine hK.out _ _ ?hS (fun hH' => ?_)
              case hS =>
                exact ⟨below_cells hbd c1, (hbd.block _ hql).trans hq1⟩
              clear hK K' hH; have hH := hH'; clear hH'; repeat simp only [Act.put, uA1, uB1, uC1]
              refine spkN 10 rfl (by decide) (by decide +kernel) (by rfl) (fun K' hK => ?_)
              go_simp
              try dsimp only
              refine hK.out _ _ ?hS (fun hH' => ?_)
              case hS =>
                exact ⟨below_cells hbd c1, (hbd.block _ hql).trans hq1⟩
              clear hK K' hH; have hH := hH'; clear hH'; repeat simp only [Act.put, uA1, uB1, uC1]
              refine kYN 11 hH ?_
              repeat simp only [Act.put, uA1, uB1, uC1]
              refine spkL rfl (by decide +kernel) (by rfl) (fun K' hK => ?_)
              go_simp
              try dsimp only
              refine hK.out _ _ ?_
              clear hK K' hH; repeat simp only [Act.put, uA1, uB1, uC1]
              refine anyBut_done (by decide +kernel) ?_ _
              go_wp2_with fail
              go_meet
              have hne : ∀ j, Plus (fun j => F j ∨ E j) w w5 j → j ≠ c := fun j hj => hj.elim (fun h => (FE.out j h).2) (fun h => by omega)
              refine ⟨rfl, set_other NB.out.1 (by omega) 3 _, A.out.1, A.out.2, (NB.out.2.agree (w' := w5.setCell ⟨c, 3, none⟩ _) fun j hj => Below.heap_setCell _ _ _ _ (hne j hj)).mono fun j hj => hj.imp id (fun h => ⟨h.1, by simp [World.setCell]; exact h.2⟩)⟩
          case rest =>
          obtain ⟨rfl, hy, hG5, hm5, hd5⟩ := hcut
          have RS := Lib.hid (dlooks aq dq (Plus (fun j => F j ∨ E j) w wc) wc hd5 (fun j hj => hj.elim (fun h => Nat.lt_of_lt_of_le (FE.out j h).1 hm5.size) (fun h => h.2)) (by rw [PA.out]; have := docP_len n k k; have := HSN.out; have := OK.out.shards; omega))
          rw [show (dqCells (aq, dq)).toArray = QP by rw [← QE.out]] at RS
          have GM := Lib.hid (And.intro hG5 hm5)
          clear hG5 hm5 hd5 yq x3
          go_wp2_with (refine wpList_load_row rfl 108 _ rfl W13.heap.size (by rfl) 108 QP (0, 0) _ hy Tryd.underlying108 rfl SQ.out ?_)
          with_reducible refine RS.out.mono ?_
          intro e w4 hN
          have FIN := Lib.hid (DTold.after (F := F) (E := E) GM.out.1 GM.out.2 (fun j hj => hj.elim (fun h => h.imp id .inl) (fun h => .inr (.inr h.1))) hN)
          obtain ⟨v3, rs3, G3, rfl, -⟩ := hN
          go_wp2_with fail
          go_ret
          rw [AZ.out]
          exact FIN.out

end Go.Proofs.YtfmlhdikagogcaaDoor
