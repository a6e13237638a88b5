/-
  gather's document: Hear: the walk.
-/
import Derived.Test.YtfmlhdikagogcaaDoorJ27
import Derived.Test.YtfmlhdikagogcaaDoorJ22
import Derived.Test.YtfmlhdikagogcaaDoorJ39
import Derived.Deep.DeepCutAuto
namespace Go.Proofs.YtfmlhdikagogcaaDoor
open Go.RowKit
set_option maxRecDepth 20000


/-- the parts behind the note, while they are gone through -/
structure HPart (W wr : World) (q : Qs) (t : List (Int × List Hz)) (F : Nat → Prop) (j : Nat) (pv : Value) (rs : List Pv) : Prop where
  own : wr.ownsRow W.heap.size 112 3 pv j (flatU Pv.cells rs)
  len : rs.length = j
  each : ∀ i (h1 : i < rs.length) (h2 : i < q.parts.length), rs[i].n = q.parts[i] ∧ rs[i].told = hasTold t q.parts[i] ∧ HitsF W F rs[i].hits (toldOf t q.parts[i])
  since : Below W.heap.size W wr

theorem HPart.start (W : World) (q : Qs) (t : List (Int × List Hz)) (F : Nat → Prop) : HPart W W q t F 0 (.slice none 0 0) [] :=
  ⟨World.ownsRow_nil _ _ _ _, rfl, fun i h1 => absurd h1 (by simp), Below.refl _ _⟩

theorem HPart.step {W wr w5 w6 : World} {q : Qs} {t : List (Int × List Hz)} {F : Nat → Prop} {j : Nat} {pv pv' : Value} {rs : List Pv} {o : Obj} {r : Pv} (h : HPart W wr q t F j pv rs) (hj : j < q.parts.length) (hb : Below wr.heap.size wr w5) (hg : (w5.alloc o).grownBy w6 pv.ownBlock)
    (ho : w6.ownsRow W.heap.size 112 3 pv' (j + 1) (flatU Pv.cells rs ++ r.cells)) (h1 : r.n = q.parts[j]) (h2 : r.told = hasTold t q.parts[j]) (h3 : HitsF W F r.hits (toldOf t q.parts[j])) : HPart W w6 q t F (j + 1) pv' (rs ++ [r]) := by
  have hs := h.since.size
  have hl := h.len
  refine ⟨?_, by simp [hl], fun i i1 i2 => ?_, ?_⟩
  · rw [flatU_append]; simpa [flatU] using ho
  · by_cases hi : i < rs.length
    · rw [List.getElem_append_left hi]; exact h.each i hi i2
    · have e : i = j := by simp at i1; omega
      subst e
      rw [List.getElem_append_right (by omega)]
      simp only [hl, Nat.sub_self, List.getElem_cons_zero]
      exact ⟨h1, h2, h3⟩
  · exact ((h.since.trans (hb.mono hs)).alloc (by have := hb.size; omega) o).grown hg (by have := hb.size; simp; omega) (fun b e => (h.own.lt b e).1)

theorem HPart.done {W wr : World} {q : Qs} {t : List (Int × List Hz)} {F : Nat → Prop} {pv : Value} {rs : List Pv} (h : HPart W wr q t F q.parts.length pv rs) : PartsF wr (fun k => F k ∨ (W.heap.size ≤ k ∧ k < wr.heap.size)) pv (partsOf {q with told := t}) := by
  refine PartsF.of_own h.own (fun b e => .inr (h.own.lt b e)) (by rw [partsOf_length, h.len]) fun i h1 h2 => ?_
  rw [partsOf_length] at h2
  obtain ⟨a1, a2, a3⟩ := h.each i h1 h2
  rw [partsOf_get _ i _ h2]
  exact ⟨a1, a2, (a3.below h.since).mono fun k hk => .inl hk⟩


set_option maxHeartbeats 8000000 in
theorem dhear
    (c : Nat) (F E : Nat → Prop) (g : Gz) (n : Nt) (vp vo vv vh : Value) (frm : Int) (w : World) (hG : RefG w c F g) (hok : GOk g) (hqs : ∀ q ∈ g.l, QOk q) (hv : NoteM w E n vp vo vv vh) (hE : ∀ k, E k → k < w.heap.size ∧ k ≠ c) (hfit : n.Fits)
    (hRT : n.kind = 10 → ∀ W, Below w.heap.size w W → Calls Tryd.prog 20 #[.agg (n.cells vp vo vv vh)] W fun e w' => e = .returned (.bool (rightN n)) ∧ Below W.heap.size W w')
    :
    Calls Tryd.prog 26 #[.pointer (some ⟨c, 0, none⟩), .int .i64 frm, .agg (n.cells vp vo vv vh)] w (DTold w c F E (hearZ g frm n).1 (hearZ g frm n).2)
  := by
  have RG := Lib.hid hG
  obtain ⟨p4, c4, rfl, -, -, -, -⟩ := id hv.read.hits
  obtain ⟨NC, hNC⟩ : ∃ NC : Array Value, NC = n.cells vp vo vv (.slice p4 n.hits.length c4) := ⟨_, rfl⟩
  have NSZ : (Tryd.prog.info? 53).map (·.size) = some NC.size := by rw [hNC]; kernel_rfl
  have HNC := Lib.hid hNC
  rw [← hNC]
  rw [← hNC] at hRT
  have RT := Lib.hid hRT
  have VV := Lib.hid hv
  have EE := Lib.hid hE
  have OK := Lib.hid hok
  have QS := Lib.hid hqs
  obtain ⟨v, xs, hob, hD, hxs, hlow⟩ := hG
  obtain ⟨p, cap, rfl, hcap, hbig, -, -, -⟩ := id hD
  have hxl : xs.length = g.l.length := by rw [← hxs]; simp
  have hcs := lt_block hob
  have x30 : w.cell? ⟨c, 3, none⟩ = some (.slice p xs.length cap) := by rw [cells_get hob 3]; rfl
  have gk : ∀ j (h : j < xs.length) (h' : j < g.l.length), xs[j].1 = g.l[j] := fun j h h' => by simp only [← hxs, List.getElem_map]
  have HD := Lib.hid hD
  have HX := Lib.hid (And.intro hxs (And.intro hob hlow))
  have GK := Lib.hid gk
  have hl9 : xs.length ≤ 9223372036854775807 := by omega
  have HXL := Lib.hid hxl
  clear hob hD hxs hlow gk hcap hbig hxl
  have hx8 : xs.length ≤ 8 := by have := hok.most; have := HXL.out; omega
  clear hNC hRT hv hE hfit hok hqs
  go_enter Tryd.func26, Tryd.ntmps26
  go_upto_region 1 with fail
  obtain ⟨W1, hW1⟩ : ∃ W1, W1 = w.alloc (.cells NC 53) := ⟨_, rfl⟩
  have y1 : W1.heap[w.heap.size]? = some (.cells NC 53 (0, 0)) := by rw [hW1]; exact heap_alloc_new _ _
  have b1 : Below w.heap.size w W1 := by rw [hW1]; exact (Below.refl _ _).alloc (Nat.le_refl _) _
  rw [← hW1]
  clear hW1
  have z0 : W1.cell? ⟨w.heap.size, 0, none⟩ = some (.int .u8 n.kind) := by rw [cells_get y1 0, HNC.out]; rfl
  have Y1 := Lib.hid (And.intro y1 b1)
  by_cases hk : n.kind = 10
  rotate_left
  · have hk1 : (n.kind != 10) = true := bne_iff_ne.2 hk
    have AZ := Lib.hid (hearZ_odd (g := g) (frm := frm) (oddB_kind hk))
    clear b1 y1
    go_wp2_with fail
    go_ret
    rw [AZ.out]
    exact DTold.nope RG.out Y1.out.2
  have hk1 : (n.kind != 10) = false := by rw [hk]; rfl
  have RN := Lib.hid (RT.out hk W1 b1)
  have HK := Lib.hid hk
  clear hk b1
  go_wp2_with (refine wpList_rowH 53 _ rfl (by rfl) w.heap.size (by rfl) 53 NC (0, 0) _ y1 Tryd.underlying53 rfl NSZ ?_)
  with_reducible refine RN.out.mono ?_
  rintro e w2 ⟨rfl, hb2⟩
  have B2 := Lib.hid (Y1.out.2.trans (hb2.mono Y1.out.2.size))
  have hlt2 : w.heap.size < w2.heap.size := Nat.lt_of_lt_of_le (lt_block y1) hb2.size
  have y2 := (hb2.block _ (lt_block y1)).trans y1
  clear hb2 y1 RN z0
  obtain ⟨rn, hrn⟩ : ∃ rn, rn = rightN n := ⟨_, rfl⟩
  rw [← hrn]
  cases rn
  · have AZ := Lib.hid (hearZ_odd (g := g) (frm := frm) (oddB_right hrn.symm))
    clear hrn y2
    go_wp2_with fail
    go_ret
    rw [AZ.out]
    exact DTold.nope RG.out B2.out
  have RN := Lib.hid hrn.symm
  clear hrn
  by_cases h1 : frm < 0
  · have AZ := Lib.hid (hearZ_odd (g := g) (oddB_low (n := n) (k := 10) h1))
    clear y2
    go_wp2_with fail
    go_ret
    rw [AZ.out]
    exact DTold.nope RG.out B2.out
  by_cases h2 : 15 < frm
  · have AZ := Lib.hid (hearZ_odd (g := g) (oddB_high (n := n) (k := 10) h2))
    clear y2
    go_wp2_with fail
    go_ret
    rw [AZ.out]
    exact DTold.nope RG.out B2.out
  have OD := Lib.hid (oddB_no HK.out RN.out h1 h2)
  have dl : decide (frm < 0) = false := decide_eq_false h1
  have dh : decide (15 < frm) = false := decide_eq_false h2
  have z6 : w2.cell? ⟨w.heap.size, 6, none⟩ = some (.int .u64 n.query) := by rw [cells_get y2 6, HNC.out]; rfl
  have Y2 := Lib.hid y2
  have yc2 := (B2.out.block _ hcs).trans HX.out.2.1
  have x32 : w2.cell? ⟨c, 3, none⟩ = some (.slice p xs.length cap) := by rw [cells_get yc2 3]; rfl
  have YC2 := Lib.hid yc2
  clear y2 yc2
  go_wp2_with fail
  go_loopg [44] xs.length (fun q i wr => ∃ k : Nat, q = xs.length - k ∧ k ≤ xs.length ∧ i = .int .i64 k ∧ (∀ j (h : j < g.l.length), j < k → hearP n g.l[j] = false) ∧ Below w2.heap.size w2 wr)
  case atStart => exact ⟨0, rfl, by omega, rfl, fun j _ h => absurd h (by omega), Below.refl _ _⟩
  case round =>
    obtain ⟨k, rfl, hk, rfl, hno, hb⟩ := hrel
    have HBW := B2.out.trans (hb.mono B2.out.size)
    have ZR := Lib.hid (And.intro hb HBW)
    have NO := Lib.hid hno
    have z6 := below_cells hb z6
    clear hno x32 x30
    by_cases hlt : k < xs.length
    rotate_left
    · obtain rfl : k = xs.length := by omega
      have AZ := Lib.hid (hearZ_none OD.out fun j hj => NO.out j hj (by have := HXL.out; omega))
      clear HBW hb
      go_wp2_with fail
      go_ret
      rw [AZ.out]
      exact DTold.nope RG.out ZR.out.2
    have hgl : k < g.l.length := by have := HXL.out; omega
    obtain ⟨bb, off, hpp, -, hrg, hdq⟩ := (HD.out.below HBW).elem hlt
    subst hpp
    obtain ⟨CS, hCS⟩ : ∃ CS : List Value, CS = dqCells xs[k] := ⟨_, rfl⟩
    have LEN : CS.length = 19 := by rw [hCS]; rfl
    have SZ : (Tryd.prog.info? 108).map (·.size) = some CS.length := by rw [LEN]; kernel_rfl
    have SZ' : (Tryd.prog.info? 108).map (·.size) = some CS.toArray.size := by rw [List.size_toArray, LEN]; kernel_rfl
    have RA : wr.rangeAt bb (off + k * 19) CS := by rw [hCS]; exact hrg
    have ONE : CS.toArray.all (·.oneCell') = true := by rw [hCS, Array.all_eq_true_iff_forall_mem]; intro u hu; exact hdq.one u (by simpa using hu)
    have hsz : (#[.int .u8 0, .int .u64 0, .int .u64 0, .int .u64 0, .int .u64 0, .int .u64 0, .int .u64 0, .int .u64 0, .int .i64 0, .int .i64 0, .int .i64 0, .int .i64 0, .slice none 0 0, .slice none 0 0, .slice none 0 0, .slice none 0 0, .int .i64 0, .int .u64 0, .slice none 0 0] : Array Value).size = CS.toArray.size := by rw [show CS.toArray.size = 19 by rw [List.size_toArray, LEN]]; rfl
    obtain ⟨W3, hW3⟩ : ∃ W3, W3 = (wr.alloc (.cells #[.int .u8 0, .int .u64 0, .int .u64 0, .int .u64 0, .int .u64 0, .int .u64 0, .int .u64 0, .int .u64 0, .int .i64 0, .int .i64 0, .int .i64 0, .int .i64 0, .slice none 0 0, .slice none 0 0, .slice none 0 0, .slice none 0 0, .int .i64 0, .int .u64 0, .slice none 0 0] 108)).setRow wr.heap.size CS.toArray := ⟨_, rfl⟩
    have b3 : Below wr.heap.size wr W3 := by rw [hW3]; exact below_setRow ((Below.refl _ _).alloc (Nat.le_refl _) _) (Nat.le_refl _) _
    have y3 : W3.heap[wr.heap.size]? = some (.cells CS.toArray 108 (0, 0)) := by rw [hW3]; exact setRow_heap _ _ _ _ _ _ (heap_alloc_new _ _)
    have Y3 := Lib.hid (And.intro y3 (And.intro hCS (hdq.below b3)))
    have x3 : W3.cell? ⟨wr.heap.size, 3, none⟩ = some (.int .u64 xs[k].1.note.stamp) := by rw [cells_get y3 3, List.getElem?_toArray, hCS]; rfl
    have x6 : W3.cell? ⟨wr.heap.size, 6, none⟩ = some (.int .u64 xs[k].1.note.query) := by rw [cells_get y3 6, List.getElem?_toArray, hCS]; rfl
    have x16 : W3.cell? ⟨wr.heap.size, 16, none⟩ = some (.int .i64 xs[k].1.who) := by rw [cells_get y3 16, List.getElem?_toArray, hCS]; rfl
    have x17 : W3.cell? ⟨wr.heap.size, 17, none⟩ = some (.int .u64 xs[k].1.query) := by rw [cells_get y3 17, List.getElem?_toArray, hCS]; rfl
    have HW3 := Lib.hid hW3
    have HB3 := Lib.hid b3
    have hs3 := b3.size
    clear hW3 hrg hdq hCS y3 b3
    go_upto_region 6 with (first | refine wpList_load_mid rfl 108 _ rfl bb (off + k * 19) (by rfl) CS _ RA Tryd.underlying108 rfl SZ ?_ | refine wpList_store_row rfl 108 _ _ rfl wr.heap.size CS.toArray (by rfl) (by rfl) 108 #[.int .u8 0, .int .u64 0, .int .u64 0, .int .u64 0, .int .u64 0, .int .u64 0, .int .u64 0, .int .u64 0, .int .i64 0, .int .i64 0, .int .i64 0, .int .i64 0, .slice none 0 0, .slice none 0 0, .slice none 0 0, .slice none 0 0, .int .i64 0, .int .u64 0, .slice none 0 0] (heap_alloc_new _ _) SZ' hsz ONE ?_)
    rw [← HW3.out]
    clear RA SZ' hsz ONE
    clear HBW
    have z6 := below_cells HB3.out z6
    have hq0 : hearP n g.l[k] = (xs[k].1.note.query == n.query) := by rw [← GK.out k hlt hgl]; rfl
    by_cases hqq : xs[k].1.note.query = n.query
    rotate_left
    · have hq1 : (xs[k].1.note.query == n.query) = false := by simp [hqq]
      have hq2 : (xs[k].1.note.query != n.query) = true := by simp [hqq]
      have NX := Lib.hid (hq0.trans hq1)
      clear hqq hq0 x3 x16 x17
      go_wp2_with fail
      go_roundg (xs.length - (k + 1))
      case measure => omega
      case rel => exact ⟨k + 1, rfl, by omega, by go_num, fun j hj hl => by
        rcases Nat.lt_or_ge j k with h2 | h2
        · exact NO.out j hj h2
        · obtain rfl : j = k := by omega
          exact NX.out, ZR.out.1.trans (HB3.out.mono ZR.out.1.size)⟩
    have hq2 : (xs[k].1.note.query != n.query) = false := by simp [hqq]
    have HA := Lib.hid (show hearZ g frm n = hearAt g k xs[k].1 frm n by rw [GK.out k hlt hgl]; exact hearZ_at OD.out hgl (by rw [hq0]; simp [hqq]) (fun j hj hl => NO.out j hj hl))
    have QK := Lib.hid (show QOk xs[k].1 by rw [GK.out k hlt hgl]; exact QS.out _ (List.getElem_mem hgl))
    have TF := Lib.hid (show ∀ p, (toldOf (xs[k].1.told ++ [(frm, n.hits)]) p).length ≤ 16 ∧ ∀ h ∈ toldOf (xs[k].1.told ++ [(frm, n.hits)]) p, h.vec.length ≤ 8 by rw [GK.out k hlt hgl]; exact told_few OK.out hgl RN.out HK.out)
    have QM := Lib.hid (show xs[k].1.parts.length ≤ 4 ∧ xs[k].1.told.length < xs[k].1.parts.length ∧ xs[k].1.note.k ≤ 16 by
      rw [GK.out k hlt hgl]
      obtain ⟨a1, -, a3, -, a5, -⟩ := OK.out.each _ (List.getElem_mem hgl)
      exact ⟨a1, a3, a5⟩)
    obtain ⟨q, hq⟩ : ∃ q, q = xs[k].1 := ⟨_, rfl⟩
    obtain ⟨d, hd⟩ : ∃ d, d = xs[k].2 := ⟨_, rfl⟩
    have Q3 := Lib.hid (show W3.heap[wr.heap.size]? = some (.cells (dqCells (q, d)).toArray 108 (0, 0)) ∧ DqAt W3 F q d by
      refine ⟨?_, by rw [hq, hd]; exact Y3.out.2.2⟩
      rw [Y3.out.1, Y3.out.2.1, hq, hd])
    rw [← hq] at x3 x6 x16 x17 hq2 HA QK TF QM
    have HQE := Lib.hid hq
    obtain ⟨t, ht⟩ : ∃ t, t = q.told ++ [(frm, n.hits)] := ⟨_, rfl⟩
    rw [← ht] at TF
    have HT := Lib.hid ht
    have BW3 := Lib.hid (ZR.out.2.trans (HB3.out.mono ZR.out.2.size))
    have hwq : wr.heap.size < W3.heap.size := lt_block Q3.out.1
    have yn3 := (BW3.out.block w.heap.size)
    have ynr := ((HB3.out.block _ (Nat.lt_of_lt_of_le (lt_block Y2.out) ZR.out.1.size)).trans ((ZR.out.1.block _ (lt_block Y2.out)).trans Y2.out))
    have ycr := ((HB3.out.block _ (Nat.lt_of_lt_of_le (lt_block YC2.out) ZR.out.1.size)).trans ((ZR.out.1.block _ (lt_block YC2.out)).trans YC2.out))
    have YN3 := Lib.hid (And.intro ynr ycr)
    obtain ⟨dp, do', dv, dh, dpv⟩ := d
    obtain ⟨pp, pc, hpv, -, -, -, -⟩ := id Q3.out.2.parts
    simp only at hpv
    rw [partsOf_length] at hpv
    subst hpv
    have x18 : W3.cell? ⟨wr.heap.size, 18, none⟩ = some (.slice pp q.parts.length pc) := by rw [cells_get Q3.out.1 18]; rfl
    have VH := Lib.hid (show HitsF W3 (fun k => F k ∨ E k) (.slice p4 n.hits.length c4) n.hits from (VV.out.read.hits.below BW3.out).mono fun _ h => .inr h)
    have hpl : q.parts.length ≤ 9223372036854775807 := by have := QM.out.1; omega
    have hl4 : q.parts.length ≤ 4 := QM.out.1
    clear hqq hq0 hq hd ht yn3 ynr ycr hb hk Y3
    obtain ⟨wo, rfl⟩ : ∃ wo : World, wo = wr := ⟨_, rfl⟩
    go_wp2_with fail
    clear x6 z6 hq2
    go_loopg [9, 10, 11, 58] q.parts.length (fun m s9 s10 s11 i wr => ∃ (j : Nat) (rs : List Pv), m = q.parts.length - j ∧ j ≤ q.parts.length ∧ i = .int .i64 j ∧ s10 = .bool (hitB q frm j) ∧ s11 = .int .i64 (leftN q t j) ∧ HPart W3 wr q t (fun k => F k ∨ E k) j s9 rs)
    case atStart => exact ⟨0, [], rfl, by omega, rfl, rfl, rfl, HPart.start _ _ _ _⟩
    case round =>
      obtain ⟨j, rs, rfl, hj, rfl, rfl, rfl, hH⟩ := hrel
      obtain ⟨pvq, pvm, pvc, rfl⟩ := own_form hH.own
      obtain rfl : pvm = j := own_len hH.own
      have HH := Lib.hid hH
      clear hH
      by_cases hjl : pvm < q.parts.length
      · skip
        --<<
        obtain ⟨pb, po, up, uc, hpp, -, hc, hh⟩ := Q3.out.2.parts.elem (i := pvm) (by rw [partsOf_length]; exact hjl)
        subst hpp
        have BWR := Lib.hid HH.out.since
        rw [partsOf_get q pvm _ hjl] at hc hh
        dsimp only at hc hh
        obtain ⟨pn, hpn⟩ : ∃ pn, pn = q.parts[pvm] := ⟨_, rfl⟩
        rw [← hpn] at hc hh
        obtain ⟨ph, hph⟩ : ∃ ph, ph = hasTold q.told pn := ⟨_, rfl⟩
        obtain ⟨hz, hhz⟩ : ∃ hz, hz = toldOf q.told pn := ⟨_, rfl⟩
        rw [← hph, ← hhz] at hc
        rw [← hhz] at hh
        have LSU := Lib.hid (leftN_succ q t pvm hjl)
        have HIS := Lib.hid (hitB_succ q frm pvm hjl)
        rw [← hpn] at LSU HIS
        rw [← hph] at HIS
        obtain ⟨PS, hPS⟩ : ∃ PS : List Value, PS = [.int .i64 pn, .bool ph, .slice up hz.length uc] := ⟨_, rfl⟩
        have RA : wr.rangeAt pb (po + pvm * 3) PS := by rw [hPS]; exact rangeAt_below hc BWR.out
        have SZP : (Tryd.prog.info? 112).map (·.size) = some PS.length := by rw [hPS]; kernel_rfl
        have SZP' : (Tryd.prog.info? 112).map (·.size) = some PS.toArray.size := by rw [hPS]; kernel_rfl
        have ONEP : PS.toArray.all (·.oneCell') = true := by rw [hPS]; simp [Value.oneCell']
        have hszp : (#[.int .i64 0, .bool false, .slice none 0 0] : Array Value).size = PS.toArray.size := by rw [hPS]; rfl
        obtain ⟨W5, hW5⟩ : ∃ W5, W5 = (wr.alloc (.cells #[.int .i64 0, .bool false, .slice none 0 0] 112)).setRow wr.heap.size PS.toArray := ⟨_, rfl⟩
        have b5 : Below wr.heap.size wr W5 := by rw [hW5]; exact below_setRow ((Below.refl _ _).alloc (Nat.le_refl _) _) (Nat.le_refl _) _
        have y5 : W5.heap[wr.heap.size]? = some (.cells #[.int .i64 pn, .bool ph, .slice up hz.length uc] 112 (0, 0)) := by rw [hW5, setRow_heap _ _ _ _ _ _ (heap_alloc_new _ _), hPS]
        have HW5 := Lib.hid hW5
        have B5 := Lib.hid b5
        have HP0 := Lib.hid hh
        have yn5 := (b5.block _ (Nat.lt_of_lt_of_le (lt_block YN3.out.1) BWR.out.size)).trans ((BWR.out.block _ (lt_block YN3.out.1)).trans YN3.out.1)
        have z15 : W5.cell? ⟨w.heap.size, 15, none⟩ = some (.slice p4 n.hits.length c4) := by rw [cells_get yn5 15, HNC.out]; rfl
        have hnr : w.heap.size ≠ wr.heap.size := Nat.ne_of_lt (Nat.lt_of_lt_of_le (lt_block YN3.out.1) BWR.out.size)
        clear hW5 hc hh b5 hPS yn5
        go_upto_region 12 with (first | refine wpList_load_mid rfl 112 _ rfl pb (po + pvm * 3) (by rfl) PS _ RA Tryd.underlying112 rfl SZP ?_ | refine wpList_store_row rfl 112 _ _ rfl wr.heap.size PS.toArray (by rfl) (by rfl) 112 #[.int .i64 0, .bool false, .slice none 0 0] (heap_alloc_new _ _) SZP' hszp ONEP ?_)
        rw [← HW5.out]
        clear RA SZP SZP' ONEP hszp
        have HPN := Lib.hid hpn
        have HPH := Lib.hid hph
        have HHZ := Lib.hid hhz
        clear hpn hph hhz
        by_cases hpf : pn = frm
        · cases ph
          · have hpb : (pn == frm) = true := by simp [hpf]
            have PHR := Lib.hid (part_hears (t := q.told) (h := n.hits) hpf HPH.out.symm)
            rw [← HT.out] at PHR
            have HPF := Lib.hid hpf
            have x01 : W5.cell? ⟨wr.heap.size, 1, none⟩ = some (.bool false) := by rw [cells_get y5 1]; rfl
            have x00 : W5.cell? ⟨wr.heap.size, 0, none⟩ = some (.int .i64 pn) := by rw [cells_get y5 0]; rfl
            clear hpf
            go_upto_region 13 with fail
            clear x00 x01
            obtain ⟨Wd, hWd⟩ : ∃ Wd, Wd = W5.drew := ⟨_, rfl⟩
            have bd : Below W5.heap.size W5 Wd := by rw [hWd]; exact (Below.refl _ _).drew
            have HWd := Lib.hid hWd
            have yd := (bd.block _ (lt_block y5)).trans y5
            have z15d := below_cells bd z15
            have g1 : Wd.cell? ⟨wr.heap.size, 1, none⟩ = some (.bool false) := by rw [cells_get yd 1]; rfl
            have f1 := thawed yd 1
            have ye := set_block yd 1 (.bool true)
            have g2 : (Wd.setCell ⟨wr.heap.size, 1, none⟩ (.bool true)).cell? ⟨wr.heap.size, 2, none⟩ = some (.slice up hz.length uc) := by rw [cells_get ye 2]; rfl
            have f2 := thawed ye 2
            have z15e : (Wd.setCell ⟨wr.heap.size, 1, none⟩ (.bool true)).cell? ⟨w.heap.size, 15, none⟩ = some (.slice p4 n.hits.length c4) := (World.cell?_of_block (a := ⟨w.heap.size, 15, none⟩) (Below.heap_setCell _ _ _ _ hnr)).trans z15d
            have yf := set_block ye 2 (.slice p4 n.hits.length c4)
            have BD := Lib.hid bd
            clear hWd bd y5 z15
            refine region_goN 5 (fun w' => w'.cell? ⟨w.heap.size, 15, none⟩ = some (.slice p4 n.hits.length c4)) (by kernel_rfl) ?hS0 (fun hH => ?_)
            case hS0 =>
              rw [← HWd.out]; exact z15d
            rw [← HWd.out] at hH ⊢
            refine kYN 0 hH ?_
            repeat simp only [Act.put, uA1, uB1, uC1]
            refine kYN 1 hH ?_
            repeat simp only [Act.put, uA1, uB1, uC1]
            refine kYN 2 hH ?_
            repeat simp only [Act.put, uA1, uB1, uC1]
            refine spkN 3 rfl (by decide) (by decide +kernel) (by rfl) (fun K' hK => ?_)
            go_simp
            try dsimp only
            refine hK.out _ _ ?hS (fun hH' => ?_)
            case hS =>
              exact z15e
            clear hK K' hH; have hH := hH'; clear hH'; repeat simp only [Act.put, uA1, uB1, uC1]
            refine kYN 4 hH ?_
            repeat simp only [Act.put, uA1, uB1, uC1]
            refine spkL rfl (by decide +kernel) (by rfl) (fun K' hK => ?_)
            go_simp
            try dsimp only
            refine hK.out _ _ ?_
            clear hK K' hH; repeat simp only [Act.put, uA1, uB1, uC1]
            refine anyBut_done (by decide +kernel) ?_ _
            skip
            obtain ⟨Wf, hWf⟩ : ∃ Wf, Wf = (Wd.setCell ⟨wr.heap.size, 1, none⟩ (.bool true)).setCell ⟨wr.heap.size, 2, none⟩ (.slice p4 n.hits.length c4) := ⟨_, rfl⟩
            have BF := Lib.hid (show Below wr.heap.size wr Wf by rw [hWf]; exact ((B5.out.trans (BD.out.mono B5.out.size)).setCell (p := ⟨wr.heap.size, 1, none⟩) (Nat.le_refl _) _).setCell (p := ⟨wr.heap.size, 2, none⟩) (Nat.le_refl _) _)
            rw [← hWf] at yf ⊢
            have HTO := Lib.hid (show true = hasTold t q.parts[pvm] by rw [← HPN.out]; exact PHR.out.1.symm)
            have HHB := Lib.hid (show HitsF W3 (fun k => F k ∨ E k) (.slice p4 n.hits.length c4) (toldOf t q.parts[pvm]) by rw [← HPN.out, PHR.out.2]; exact VH.out)
            have HX1 := Lib.hid (show (pn == frm) = true from hpb)
            have LX1 := Lib.hid (show hasTold t pn = true from PHR.out.1)
            have x0 : Wf.cell? ⟨wr.heap.size, 1, none⟩ = some (.bool true) := by rw [cells_get yf 1]; rfl
            clear hWf yd g1 f1 ye g2 f2 z15e z15d
            have OB := own_below HH.out.own BF.out
            obtain ⟨g6, c6, w6, hrun, hown6, hg6, hat6, hlt6⟩ := run_push rowPart OB (Nat.le_trans BWR.out.size BF.out.size) #[.int .i64 pn, .bool true, .slice p4 n.hits.length c4] rfl (by simp [Value.oneCell']) (by simp [maxLen]; omega) (by omega)
            have NX := Lib.hid (HH.out.step (r := ⟨pn, true, .slice p4 n.hits.length c4⟩) hjl BF.out hg6 hown6 HPN.out HTO.out HHB.out)
            have SZ3 : (Tryd.prog.info? 112).map (·.size) = some (#[.int .i64 pn, .bool true, .slice p4 n.hits.length c4] : Array Value).size := by kernel_rfl
            clear hown6 hg6 hat6 hlt6 OB
            go_wp2_with (first | (with_reducible refine wpList_append_eq hrun rfl _ _ rfl rfl rfl ?_) | refine wpList_load_row rfl 112 _ rfl wr.heap.size (by rfl) 112 #[.int .i64 pn, .bool true, .slice p4 n.hits.length c4] (0, 0) _ yf Tryd.underlying112 rfl SZ3 ?_)
            go_roundg (q.parts.length - (pvm + 1))
            case measure => omega
            case rel => exact ⟨pvm + 1, _, rfl, by omega, by go_num, by rw [HIS.out]; simp [HX1.out], by first | (rw [LSU.out]; simp [LX1.out]; done) | (rw [LSU.out]; simp [LX1.out]; exact IntWalk.wrap64_in _ (by have := leftN_le q t pvm; omega)), NX.out⟩
          · have hpb : (pn == frm) = true := by simp [hpf]
            have PHR := Lib.hid (part_deaf (t := q.told) (f := frm) (h := n.hits) (p := pn) (by rw [← HPH.out]; simp))
            rw [← HT.out, ← HPH.out, ← HHZ.out] at PHR
            have BF := Lib.hid B5.out
            have yf := y5
            have HTO := Lib.hid (show true = hasTold t q.parts[pvm] by rw [← HPN.out]; exact PHR.out.1.symm)
            have HHB := Lib.hid (show HitsF W3 (fun k => F k ∨ E k) (.slice up hz.length uc) (toldOf t q.parts[pvm]) by rw [← HPN.out, PHR.out.2]; exact HP0.out.mono fun _ h => .inl h)
            have HX1 := Lib.hid (show (pn == frm) = true from hpb)
            have LX1 := Lib.hid (show hasTold t pn = true from PHR.out.1)
            have x0 : W5.cell? ⟨wr.heap.size, 1, none⟩ = some (.bool true) := by rw [cells_get yf 1]; rfl
            have x00 : W5.cell? ⟨wr.heap.size, 0, none⟩ = some (.int .i64 pn) := by rw [cells_get yf 0]; rfl
            clear y5 z15 hpf
            have OB := own_below HH.out.own BF.out
            obtain ⟨g6, c6, w6, hrun, hown6, hg6, hat6, hlt6⟩ := run_push rowPart OB (Nat.le_trans BWR.out.size BF.out.size) #[.int .i64 pn, .bool true, .slice up hz.length uc] rfl (by simp [Value.oneCell']) (by simp [maxLen]; omega) (by omega)
            have NX := Lib.hid (HH.out.step (r := ⟨pn, true, .slice up hz.length uc⟩) hjl BF.out hg6 hown6 HPN.out HTO.out HHB.out)
            have SZ3 : (Tryd.prog.info? 112).map (·.size) = some (#[.int .i64 pn, .bool true, .slice up hz.length uc] : Array Value).size := by kernel_rfl
            clear hown6 hg6 hat6 hlt6 OB
            go_wp2_with (first | (with_reducible refine wpList_append_eq hrun rfl _ _ rfl rfl rfl ?_) | refine wpList_load_row rfl 112 _ rfl wr.heap.size (by rfl) 112 #[.int .i64 pn, .bool true, .slice up hz.length uc] (0, 0) _ yf Tryd.underlying112 rfl SZ3 ?_)
            go_roundg (q.parts.length - (pvm + 1))
            case measure => omega
            case rel => exact ⟨pvm + 1, _, rfl, by omega, by go_num, by rw [HIS.out]; simp [HX1.out], by first | (rw [LSU.out]; simp [LX1.out]; done) | (rw [LSU.out]; simp [LX1.out]; exact IntWalk.wrap64_in _ (by have := leftN_le q t pvm; omega)), NX.out⟩
        · have hpb : (pn == frm) = false := by simp [hpf]
          have PHR := Lib.hid (part_deaf (t := q.told) (f := frm) (h := n.hits) (p := pn) (fun h => hpf h.1))
          rw [← HT.out, ← HPH.out, ← HHZ.out] at PHR
          have BF := Lib.hid B5.out
          have yf := y5
          have HTO := Lib.hid (show ph = hasTold t q.parts[pvm] by rw [← HPN.out]; exact PHR.out.1.symm)
          have HHB := Lib.hid (show HitsF W3 (fun k => F k ∨ E k) (.slice up hz.length uc) (toldOf t q.parts[pvm]) by rw [← HPN.out, PHR.out.2]; exact HP0.out.mono fun _ h => .inl h)
          have HX1 := Lib.hid (show (pn == frm) = false from hpb)
          have x0 : W5.cell? ⟨wr.heap.size, 1, none⟩ = some (.bool ph) := by rw [cells_get yf 1]; rfl
          have x00 : W5.cell? ⟨wr.heap.size, 0, none⟩ = some (.int .i64 pn) := by rw [cells_get yf 0]; rfl
          have LXX := Lib.hid PHR.out.1
          clear y5 z15 hpf PHR
          cases ph
          · have LX1 := Lib.hid (show hasTold t pn = false from LXX.out)
            have OB := own_below HH.out.own BF.out
            obtain ⟨g6, c6, w6, hrun, hown6, hg6, hat6, hlt6⟩ := run_push rowPart OB (Nat.le_trans BWR.out.size BF.out.size) #[.int .i64 pn, .bool false, .slice up hz.length uc] rfl (by simp [Value.oneCell']) (by simp [maxLen]; omega) (by omega)
            have NX := Lib.hid (HH.out.step (r := ⟨pn, false, .slice up hz.length uc⟩) hjl BF.out hg6 hown6 HPN.out HTO.out HHB.out)
            have SZ3 : (Tryd.prog.info? 112).map (·.size) = some (#[.int .i64 pn, .bool false, .slice up hz.length uc] : Array Value).size := by kernel_rfl
            clear hown6 hg6 hat6 hlt6 OB
            go_wp2_with (first | (with_reducible refine wpList_append_eq hrun rfl _ _ rfl rfl rfl ?_) | refine wpList_load_row rfl 112 _ rfl wr.heap.size (by rfl) 112 #[.int .i64 pn, .bool false, .slice up hz.length uc] (0, 0) _ yf Tryd.underlying112 rfl SZ3 ?_)
            go_roundg (q.parts.length - (pvm + 1))
            case measure => omega
            case rel => exact ⟨pvm + 1, _, rfl, by omega, by go_num, by rw [HIS.out]; simp [HX1.out], by first | (rw [LSU.out]; simp [LX1.out]; done) | (rw [LSU.out]; simp [LX1.out]; exact IntWalk.wrap64_in _ (by have := leftN_le q t pvm; omega)), NX.out⟩
          · have LX1 := Lib.hid (show hasTold t pn = true from LXX.out)
            have OB := own_below HH.out.own BF.out
            obtain ⟨g6, c6, w6, hrun, hown6, hg6, hat6, hlt6⟩ := run_push rowPart OB (Nat.le_trans BWR.out.size BF.out.size) #[.int .i64 pn, .bool true, .slice up hz.length uc] rfl (by simp [Value.oneCell']) (by simp [maxLen]; omega) (by omega)
            have NX := Lib.hid (HH.out.step (r := ⟨pn, true, .slice up hz.length uc⟩) hjl BF.out hg6 hown6 HPN.out HTO.out HHB.out)
            have SZ3 : (Tryd.prog.info? 112).map (·.size) = some (#[.int .i64 pn, .bool true, .slice up hz.length uc] : Array Value).size := by kernel_rfl
            clear hown6 hg6 hat6 hlt6 OB
            go_wp2_with (first | (with_reducible refine wpList_append_eq hrun rfl _ _ rfl rfl rfl ?_) | refine wpList_load_row rfl 112 _ rfl wr.heap.size (by rfl) 112 #[.int .i64 pn, .bool true, .slice up hz.length uc] (0, 0) _ yf Tryd.underlying112 rfl SZ3 ?_)
            go_roundg (q.parts.length - (pvm + 1))
            case measure => omega
            case rel => exact ⟨pvm + 1, _, rfl, by omega, by go_num, by rw [HIS.out]; simp [HX1.out], by first | (rw [LSU.out]; simp [LX1.out]; done) | (rw [LSU.out]; simp [LX1.out]; exact IntWalk.wrap64_in _ (by have := leftN_le q t pvm; omega)), NX.out⟩
        -->>
      · obtain rfl : pvm = q.parts.length := by omega
        have BWR := Lib.hid HH.out.since
        have bw := Lib.hid (BW3.out.trans (BWR.out.mono BW3.out.size))
        obtain ⟨hb0, hhb0⟩ : ∃ hb0, hb0 = hitB q frm q.parts.length := ⟨_, rfl⟩
        rw [← hhb0]
        cases hb0
        · have AZ := Lib.hid (HA.out.trans (hearAt_deaf hhb0.symm))
          clear hhb0
          go_wp2_with fail
          go_ret
          rw [AZ.out]
          exact DTold.nope RG.out bw.out
        have HB0 := Lib.hid hhb0.symm
        have yqr := (BWR.out.block _ (lt_block Q3.out.1)).trans Q3.out.1
        have ynr := (BWR.out.block _ (lt_block YN3.out.1)).trans YN3.out.1
        have ycr := (BWR.out.block _ (lt_block YN3.out.2)).trans YN3.out.2
        have z10 : wr.cell? ⟨w.heap.size, 10, none⟩ = some (.int .i64 n.code) := by rw [cells_get ynr 10, HNC.out]; rfl
        have YR := Lib.hid (And.intro yqr (And.intro ynr ycr))
        have hqc : wo.heap.size ≠ c := fun e => by have h1 := ZR.out.2.size; have h2 := hcs; omega
        clear hhb0 x3 x16 x17 x18 hk1
        by_cases hcd : n.code = 0
        rotate_left
        · have hc1 : (n.code != 0) = true := bne_iff_ne.2 hcd
          have AZ := Lib.hid (HA.out.trans (hearAt_code HB0.out hcd))
          have RM := Lib.hid (dremove c k F g wr (RG.out.below bw.out) hgl (by have := OK.out.most; omega))
          clear hcd yqr ynr ycr
          go_wp2_with fail
          with_reducible refine RM.out.mono ?_
          rintro e w8 ⟨rfl, hG8, hM8⟩
          have y8 := (hM8.block _ (lt_block YR.out.1) hqc).trans YR.out.1
          have x3 : w8.cell? ⟨wo.heap.size, 3, none⟩ = some (.int .u64 q.note.stamp) := by rw [cells_get y8 3]; rfl
          have x16 : w8.cell? ⟨wo.heap.size, 16, none⟩ = some (.int .i64 q.who) := by rw [cells_get y8 16]; rfl
          have x17 : w8.cell? ⟨wo.heap.size, 17, none⟩ = some (.int .u64 q.query) := by rw [cells_get y8 17]; rfl
          have z10 : w8.cell? ⟨w.heap.size, 10, none⟩ = some (.int .i64 n.code) := by rw [cells_get ((hM8.block _ (lt_block YR.out.2.1) (by omega)).trans YR.out.2.1) 10, HNC.out]; rfl
          have RS := Lib.hid (dresult q.who q.query q.note.stamp n.code [] (.slice none 0 0) (fun _ => False) w8 (HitsF.nil _ _) (fun _ h => h.elim))
          have GM := Lib.hid (And.intro hG8 ((Mod.of_below (F := fun j => j = c) bw.out).trans hM8 (fun _ _ h => h)))
          clear y8 hG8 hM8
          go_wp2_with fail
          with_reducible refine RS.out.mono ?_
          intro e w9 hN
          have FIN := Lib.hid (DTold.after (F := F) (E := E) GM.out.1 GM.out.2 (fun j hj => hj.imp id (fun h => .inr (Nat.le_trans bw.out.size h.1))) hN)
          obtain ⟨v3, rs3, G3, rfl, -⟩ := hN
          go_wp2_with fail
          go_ret
          rw [AZ.out]
          exact FIN.out
        have hc1 : (n.code != 0) = false := by rw [hcd]; rfl
        have HC := Lib.hid hcd
        have FE := Lib.hid (show ∀ j, F j ∨ E j → j < w.heap.size ∧ j ≠ c from fun j hj => hj.elim (HX.out.2.2 j) (EE.out j))
        have x3 : wr.cell? ⟨c, 3, none⟩ = some (.slice (some ⟨bb, off, none⟩) xs.length cap) := by rw [cells_get ycr 3]; rfl
        have SR := Lib.hid (show SrcAt wr (some ⟨bb, off, none⟩) xs.length cap 19 (flatU dqCells xs) from HD.out.src.below bw.out)
        have ON1 := Lib.hid HD.out.ones
        have hr0 := own_empty wr wr.heap.size 108 19 (Nat.le_refl _)
        have hb1 := (Below.refl wr.heap.size wr).alloc (Nat.le_refl _) (.cells #[] 108)
        have x3a := below_cells hb1 x3
        obtain ⟨q2, n2, k2, w20, hrun2, hr2, hg2, -⟩ := run_app rowDQ hr0 hb1.size (SR.out.below hb1) ON1.out (by simp [maxLen]; omega) (by omega)
        have hb20 := hb1.grown hg2 hb1.size (fun b hb => (hr0.lt b hb).1)
        simp only [Nat.zero_add, List.nil_append] at hr2
        obtain ⟨gb, gcap, hgv, -⟩ := own_range dqCells_length hr2 (k := k) hlt (by decide)
        obtain ⟨rfl, rfl, rfl⟩ := Value.slice.inj hgv
        have yc20 := (hb20.block _ (lt_block ycr)).trans ycr
        have yq20 := (hb20.block _ (lt_block yqr)).trans yqr
        have y3 : w20.cell? ⟨c, 3, none⟩ = some (.slice (some ⟨bb, off, none⟩) xs.length cap) := by rw [cells_get yc20 3]; rfl
        have f3 := thawed yc20 3
        have hgl2 := hr2.lt gb rfl
        have hcg : c ≠ gb := fun e => by have h1 := bw.out.size; have h2 := hcs; omega
        obtain ⟨W24, hW24⟩ : ∃ W24, W24 = w20.setCell ⟨c, 3, none⟩ (.slice (some ⟨gb, 0, none⟩) xs.length k2) := ⟨_, rfl⟩
        have yc24 : W24.heap[c]? = some (.cells #[.int .i64 g.shards, .int .i64 g.dim, .int .u64 g.last, .slice (some ⟨gb, 0, none⟩) xs.length k2] 68 (0, 0)) := by rw [hW24]; exact set_block yc20 3 _
        have m24 : Mod (fun j => j = c) wr W24 := by rw [hW24]; exact Mod.setCell (F := fun k => k = c) (Mod.of_below hb20) (p := ⟨c, 3, none⟩) (.inl rfl) _
        have o24 : W24.ownsRow wr.heap.size 108 19 (.slice (some ⟨gb, 0, none⟩) xs.length k2) xs.length (flatU dqCells xs) := by rw [hW24]; exact hr2.kept (grownBy_setCells c [_] 3 w20) (.inr (by intro e; have h1 := (hr2.lt c e).1; have h2 := bw.out.size; omega))
        have c3 : W24.cell? ⟨c, 3, none⟩ = some (.slice (some ⟨gb, 0, none⟩) xs.length k2) := by rw [cells_get yc24 3]; rfl
        have PD := Lib.hid HH.out.done
        have hpl4 := lt_block YR.out.1
        have hcw : ∀ j, ((F j ∨ E j) ∨ (W3.heap.size ≤ j ∧ j < wr.heap.size)) → j ≠ c := fun j hj => hj.elim (fun h => (FE.out j h).2) (fun h e => by have h1 := BW3.out.size; have h2 := hcs; omega)
        have P24 := Lib.hid (PD.out.agree (Agree.of_mod m24 (fun j hj => hj.elim (fun h => Nat.lt_of_lt_of_le (FE.out j h).1 bw.out.size) (fun h => h.2)) hcw))
        have M24 := Lib.hid ((Mod.of_below (F := fun j => j = c) bw.out).trans m24 (fun _ _ h => h))
        rw [HQE.out] at P24
        have A := Lib.hid (RefG.hears (gb := gb) HX.out.1 FE.out hcs (fun x hx => (HD.out.each x hx).mono fun j hj => .inl hj) M24.out yc24 bw.out.size hlt P24.out (fun j hj => ⟨hj.imp id (fun h => ⟨Nat.le_trans BW3.out.size h.1, Nat.lt_of_lt_of_le h.2 m24.size⟩), fun e => by
          rcases hj with h | h
          · have h1 := (FE.out j h).1; have h2 := bw.out.size; omega
          · omega⟩) rfl rfl o24)
        rw [← HQE.out] at A P24
        have cg : ∃ u, W24.cell? ⟨gb, k * 19 + 18, none⟩ = some u := by
          have h := own_rangeAt o24 rfl (k * 19) (dqCells xs[k]) (fun j u hj => by
            have hjs : j < 19 := (List.getElem?_eq_some_iff.1 hj).1
            rw [flatU_get dqCells_length xs k hlt j hjs]; exact hj)
          exact ⟨_, h 18 _ rfl⟩
        obtain ⟨cu, hcu⟩ := cg
        obtain ⟨ca24, ta24, hg24⟩ : ∃ ca ta, W24.heap[gb]? = some (.cells ca ta (0, 0)) := by
          obtain ⟨-, ⟨h2, -⟩ | ⟨g9, cp, cur, hv, hb, hg, -⟩⟩ := o24
          · cases h2
          · obtain ⟨e1, -, -⟩ := Value.slice.inj hv
            have e2 : gb = g9 := by simpa using e1
            subst e2
            exact ⟨_, _, hg⟩
        have fg := thawed hg24 (k * 19 + 18)
        have yq24 := (m24.block _ (lt_block yqr) hqc).trans yqr
        have HW24 := Lib.hid hW24
        have Y24 := Lib.hid (And.intro yq24 (And.intro m24 hgl2))
        clear hcd yqr ynr ycr yc20 yq20 hgl2 hcg yc24 o24 hpl4 hcw hg24 yq24 hW24 hb1 hb20 hr0 hr2 hg2 hgv m24
        have k0 : (0 : Int) ≤ (k : Int) := by omega
        have k1 : (k : Int) < (xs.length : Int) := by omega
        go_upto_region 25 with (with_reducible refine wpList_append_eq hrun2 rfl _ _ rfl rfl rfl ?_)
        rw [← HW24.out]
        clear y3 f3 x3 x3a hrun2 z10
        go_upto_region 26 with fail
        obtain ⟨W25, hW25⟩ : ∃ W25, W25 = W24.setCell ⟨gb, k * 19 + 18, none⟩ (.slice pvq q.parts.length pvc) := ⟨_, rfl⟩
        rw [← hW25] at A ⊢
        have hqg : wo.heap.size ≠ gb := by have h1 := Y24.out.2.2.1; have h2 := lt_block YR.out.1; omega
        have yq25 : W25.heap[wo.heap.size]? = some (.cells (dqCells (q, ⟨dp, do', dv, dh, .slice pp q.parts.length pc⟩)).toArray 108 (0, 0)) := by rw [hW25]; exact set_other Y24.out.1 hqg _ _
        have PW := Lib.hid (show PartsF W25 (fun j => (F j ∨ E j) ∨ (W3.heap.size ≤ j ∧ j < wr.heap.size)) (.slice pvq q.parts.length pvc) (partsOf {q with told := t}) by
          refine P24.out.agree fun j hj => ?_
          rw [hW25]
          refine Below.heap_setCell _ _ _ _ fun e => ?_
          rcases hj with h | h
          · have h1 := (FE.out j h).1; have h2 := bw.out.size; have h3 := Y24.out.2.2.1; have h4 : j = gb := e; omega
          · have h3 := Y24.out.2.2.1; have h4 : j = gb := e; omega)
        have YQ25 := Lib.hid yq25
        have s25 : wr.heap.size ≤ W25.heap.size := by rw [hW25]; simpa [World.setCell] using Y24.out.2.1.size
        clear hW25 hcu fg c3 yq25
        have PLJ := Lib.hid (show ∀ j, Plus (fun j => F j ∨ E j) w W25 j → F j ∨ E j ∨ w.heap.size ≤ j from fun j hj => hj.elim (fun h => h.imp id .inl) (fun h => .inr (.inr h.1)))
        by_cases hlf : 0 < leftN q t q.parts.length
        · have AZ := Lib.hid (HA.out.trans (hearAt_more QK.out HB0.out HC.out (HT.out ▸ hlf)))
          rw [← HT.out] at AZ
          have hlf1 : (0 : Int) < (leftN q t q.parts.length : Int) := by omega
          go_wp2_with fail
          go_ret
          rw [AZ.out]
          exact DTold.quiet A.out.1 A.out.2 PLJ.out (Below.refl _ _)
        have AZ := Lib.hid (HA.out.trans (hearAt_last QK.out HB0.out HC.out (HT.out ▸ hlf)))
        rw [← HT.out] at AZ
        have hlf1 : ¬ (0 : Int) < (leftN q t q.parts.length : Int) := by omega
        have RM := Lib.hid (dremove c k _ _ W25 A.out.1 (by simp [toldZ]; exact hgl) (by simp [toldZ]; have := OK.out.most; omega))
        have P0 := Lib.hid (show 0 < q.parts.length by have := QM.out.2.1; omega)
        clear hlf
        go_wp2_with fail
        with_reducible refine RM.out.mono ?_
        rintro e w8 ⟨rfl, hG8, hM8⟩
        rw [drop_told'] at hG8
        have GM := Lib.hid (And.intro hG8 (A.out.2.trans hM8 (fun _ _ h => h)))
        have PL8 := Lib.hid (show ∀ j, Plus (Plus (fun j => F j ∨ E j) w W25) W25 w8 j → F j ∨ E j ∨ w.heap.size ≤ j from fun j hj => hj.elim (PLJ.out j) (fun h => .inr (.inr (Nat.le_trans bw.out.size (Nat.le_trans s25 h.1)))))
        have P8 := Lib.hid (PW.out.agree (Agree.of_mod hM8 (fun j hj => hj.elim (fun h => Nat.lt_of_lt_of_le (FE.out j h).1 (Nat.le_trans bw.out.size s25)) (fun h => Nat.lt_of_lt_of_le h.2 s25)) (fun j hj => hj.elim (fun h => (FE.out j h).2) (fun h e => by have h1 := BW3.out.size; have h2 := hcs; omega))))
        have GL8 := Lib.hid (show ∀ j, ((F j ∨ E j) ∨ (W3.heap.size ≤ j ∧ j < wr.heap.size)) → j < w8.heap.size from fun j hj => Nat.lt_of_lt_of_le (hj.elim (fun h => Nat.lt_of_lt_of_le (FE.out j h).1 (Nat.le_trans bw.out.size s25)) (fun h => Nat.lt_of_lt_of_le h.2 s25)) hM8.size)
        have y8 := (hM8.block _ (lt_block YQ25.out) hqc).trans YQ25.out
        obtain ⟨pv2, cv2, hpv2, -, -, -, -⟩ := Q3.out.2.note.read.vec.slice
        simp only at hpv2
        subst hpv2
        have x3 : w8.cell? ⟨wo.heap.size, 3, none⟩ = some (.int .u64 q.note.stamp) := by rw [cells_get y8 3]; rfl
        have x8 : w8.cell? ⟨wo.heap.size, 8, none⟩ = some (.int .i64 q.note.k) := by rw [cells_get y8 8]; rfl
        have x14 : w8.cell? ⟨wo.heap.size, 14, none⟩ = some (.slice pv2 q.note.vec.length cv2) := by rw [cells_get y8 14]; rfl
        have x16 : w8.cell? ⟨wo.heap.size, 16, none⟩ = some (.int .i64 q.who) := by rw [cells_get y8 16]; rfl
        have x17 : w8.cell? ⟨wo.heap.size, 17, none⟩ = some (.int .u64 q.query) := by rw [cells_get y8 17]; rfl
        have Y8 := Lib.hid y8
        clear y8 hG8 hM8 hlf1 s25
        by_cases hv0 : q.note.vec.length = 0
        · have ev : ((q.note.vec.length : Int) == 0) = true := by rw [hv0]; rfl
          have AN := Lib.hid (show answerZ q t = toldOf t q.parts[0] by
            unfold answerZ
            rw [if_pos hv0]
            congr 1
            rw [List.headD_eq_head?_getD, List.head?_eq_getElem?, List.getElem?_eq_getElem P0.out]
            rfl)
          obtain ⟨b0, o0, u0, uc0, hp0, -, hc0, hh0⟩ := P8.out.elem (i := 0) (by rw [partsOf_length]; exact P0.out)
          subst hp0
          rw [partsOf_get {q with told := t} 0 _ P0.out] at hc0 hh0
          obtain ⟨hz, hhz⟩ : ∃ hz, hz = toldOf t q.parts[0] := ⟨_, rfl⟩
          replace hc0 : w8.rangeAt b0 (o0 + 0 * 3) [.int .i64 q.parts[0], .bool (hasTold t q.parts[0]), .slice u0 hz.length uc0] := by rw [hhz]; exact hc0
          replace hh0 : HitsF w8 (fun j => (F j ∨ E j) ∨ (W3.heap.size ≤ j ∧ j < wr.heap.size)) (.slice u0 hz.length uc0) hz := by rw [hhz]; exact hh0
          rw [← hhz] at AN
          have d2 : w8.cell? ⟨b0, o0 + 1 + 1, none⟩ = some (.slice u0 hz.length uc0) := by
            have := hc0 2 _ rfl
            rw [Nat.zero_mul, Nat.add_zero] at this
            exact this
          have d2' : w8.cell? ⟨b0, o0 + 2, none⟩ = some (.slice u0 hz.length uc0) := d2
          have H0 := Lib.hid hh0
          have p0i : (0 : Int) < (q.parts.length : Int) := by have := P0.out; omega
          have p0n := P0.out
          have HV0 := Lib.hid hv0
          clear hc0 hh0 hhz hv0
          go_upto_region 30 with fail
          obtain ⟨Wd, hWd⟩ : ∃ Wd, Wd = w8.drew := ⟨_, rfl⟩
          have bd : Below w8.heap.size w8 Wd := by rw [hWd]; exact (Below.refl _ _).drew
          have HWd := Lib.hid hWd
          have RS := Lib.hid (dresult q.who q.query q.note.stamp 0 _ _ _ Wd (H0.out.below bd) (fun j hj => Nat.lt_of_lt_of_le (GL8.out j hj) bd.size))
          have BD := Lib.hid bd
          clear hWd ev
          refine region_goN 12 (fun w' => w'.cell? ⟨wo.heap.size, 3, none⟩ = some (.int .u64 q.note.stamp) ∧ w'.cell? ⟨wo.heap.size, 16, none⟩ = some (.int .i64 q.who) ∧ w'.cell? ⟨wo.heap.size, 17, none⟩ = some (.int .u64 q.query) ∧ w'.cell? ⟨b0, o0 + 1 + 1, none⟩ = some (.slice u0 hz.length uc0) ∧ w'.cell? ⟨b0, o0 + 2, none⟩ = some (.slice u0 hz.length uc0)) (by kernel_rfl) ?hS0 (fun hH => ?_)
          case hS0 =>
            rw [← HWd.out]; exact ⟨below_cells bd x3, below_cells bd x16, below_cells bd x17, below_cells bd d2, below_cells bd d2'⟩
          rw [← HWd.out] at hH ⊢
          refine kYN 0 hH ?_
          repeat simp only [Act.put, uA1, uB1, uC1]
          refine kYN 1 hH ?_
          repeat simp only [Act.put, uA1, uB1, uC1]
          refine kYN 2 hH ?_
          repeat simp only [Act.put, uA1, uB1, uC1]
          refine kYN 3 hH ?_
          repeat simp only [Act.put, uA1, uB1, uC1]
          refine kYN 4 hH ?_
          repeat simp only [Act.put, uA1, uB1, uC1]
          refine kYN 5 hH ?_
          repeat simp only [Act.put, uA1, uB1, uC1]
          refine kYN 6 hH ?_
          repeat simp only [Act.put, uA1, uB1, uC1]
          refine kYN 7 hH ?_
          repeat simp only [Act.put, uA1, uB1, uC1]
          refine kYN 8 hH ?_
          repeat simp only [Act.put, uA1, uB1, uC1]
          refine kYN 9 hH ?_
          repeat simp only [Act.put, uA1, uB1, uC1]
          refine kYN 10 hH ?_
          repeat simp only [Act.put, uA1, uB1, uC1]
          refine spkN 11 rfl (by decide) (by decide +kernel) (by rfl) (fun K' hK => ?_)
          go_simp
          with_reducible refine RS.out.mono ?_
          intro e w9 hN
          have FIN := Lib.hid (DTold.after (F := F) (E := E) (GM.out.1.below BD.out) (GM.out.2.andBelow BD.out) PL8.out hN)
          obtain ⟨v3, rs3, G3, rfl, -, -, -, -, hbn⟩ := hN
          try dsimp only
          refine hK.out _ _ ?hS (fun hH' => ?_)
          case hS =>
            exact ⟨below_cells hbn hH.1, below_cells hbn hH.2.1, below_cells hbn hH.2.2.1, below_cells hbn hH.2.2.2.1, below_cells hbn hH.2.2.2.2⟩
          clear hK K' hH; have hH := hH'; clear hH'; repeat simp only [Act.put, uA1, uB1, uC1]
          refine spkL rfl (by decide +kernel) (by rfl) (fun K' hK => ?_)
          go_simp
          try dsimp only
          refine hK.out _ _ ?_
          clear hK K' hH; repeat simp only [Act.put, uA1, uB1, uC1]
          refine anyBut_done (by decide +kernel) ?_ _
          skip
          go_wp2_with fail
          go_ret
          rw [AZ.out, AN.out]
          exact FIN.out
        have ev : ((q.note.vec.length : Int) == 0) = false := beq_eq_false_iff_ne.2 (by omega)
        by_cases hk1 : q.note.k < 1
        · have AN := Lib.hid (show answerZ q t = [] by unfold answerZ; rw [if_neg hv0, if_pos hk1])
          have RS := Lib.hid (dresult q.who q.query q.note.stamp 0 [] (.slice none 0 0) (fun _ => False) w8 (HitsF.nil _ _) (fun _ h => h.elim))
          clear hv0
          go_wp2_with fail
          with_reducible refine RS.out.mono ?_
          intro e w9 hN
          have FIN := Lib.hid (DTold.after (F := F) (E := E) GM.out.1 GM.out.2 PL8.out hN)
          obtain ⟨v3, rs3, G3, rfl, -⟩ := hN
          go_wp2_with fail
          go_ret
          rw [AZ.out, AN.out]
          exact FIN.out
        obtain ⟨mk, hmk⟩ : ∃ mk : Nat, (mk : Int) = q.note.k := ⟨q.note.k.toNat, by omega⟩
        have AN := Lib.hid (show answerZ q t = mergeZ mk (q.parts.map (toldOf t)) by
          unfold answerZ
          rw [if_neg hv0, if_neg hk1, ← hmk, Int.toNat_natCast])
        have hmk1 : 1 ≤ mk := by omega
        have hmk16 : mk ≤ 16 := by have := QM.out.2.2; omega
        rw [← hmk] at x8 hk1
        have HV0 := Lib.hid hv0
        clear hv0 hmk
        have x8' := x8
        obtain ⟨LT, hLT⟩ : ∃ LT, LT = q.parts.map (toldOf t) := ⟨_, rfl⟩
        rw [← hLT] at AN
        have HLT := Lib.hid hLT
        have TV := Lib.hid (show ∀ ms ∈ LT, ms.length ≤ 16 ∧ ∀ h ∈ ms, h.vec.length ≤ 8 by
          rw [hLT]
          intro ms hms
          obtain ⟨y, -, rfl⟩ := List.mem_map.1 hms
          exact TF.out y)
        have LTL := Lib.hid (show LT.length = q.parts.length by rw [hLT, List.length_map])
        clear hLT
        obtain ⟨wo2, rfl⟩ : ∃ wo2 : World, wo2 = wr := ⟨_, rfl⟩
        go_upto_region 34 with fail
        obtain ⟨W9, hW9⟩ : ∃ W9, W9 = w8.alloc (.cells #[.int .i64 mk, .slice none 0 0] 116) := ⟨_, rfl⟩
        have b9 : Below w8.heap.size w8 W9 := by rw [hW9]; exact (Below.refl _ _).alloc (Nat.le_refl _) _
        have r9 : RefL W9 (fun j => w8.heap.size ≤ j ∧ j < W9.heap.size) w8.heap.size mk [] := by
          rw [hW9]
          exact (refL_new w8 mk).mono fun j (hj : j = _) => by rw [hj]; simp
        rw [← hW9]
        have hl9w : w8.heap.size < W9.heap.size := by rw [hW9]; simp
        have B9 := Lib.hid b9
        have R9 := Lib.hid r9
        clear hW9 r9 ev hk1 x8 x8' x14
        have x3 := below_cells b9 x3
        have x16 := below_cells b9 x16
        have x17 := below_cells b9 x17
        clear b9
        go_wp2_with fail
        go_loopg [161] q.parts.length (fun m i wr => ∃ j : Nat, m = q.parts.length - j ∧ j ≤ q.parts.length ∧ i = .int .i64 j ∧ RefL wr (fun b => w8.heap.size ≤ b ∧ b < wr.heap.size) w8.heap.size mk (mergeZ mk (LT.take j)) ∧ Mod (fun b => b = w8.heap.size) W9 wr)
        case atStart => exact ⟨0, rfl, by omega, rfl, R9.out, Mod.refl _ _⟩
        case round =>
          obtain ⟨j, rfl, hj, rfl, hL, hM⟩ := hrel
          have M9 := Lib.hid hM
          have L9 := Lib.hid hL
          have BJ := Lib.hid (show Below w8.heap.size w8 wr from B9.out.trans (hM.below (Nat.le_of_lt hl9w) (fun b (e : b = _) => by omega)))
          clear hL hM
          by_cases hjl : j < q.parts.length
          · obtain ⟨pb, po, up, uc, hpp, -, hc, hh⟩ := P8.out.elem (i := j) (by rw [partsOf_length]; exact hjl)
            subst hpp
            rw [partsOf_get {q with told := t} j _ hjl] at hc hh
            obtain ⟨hs, hhs⟩ : ∃ hs, hs = toldOf t q.parts[j] := ⟨_, rfl⟩
            replace hc : w8.rangeAt pb (po + j * 3) [.int .i64 q.parts[j], .bool (hasTold t q.parts[j]), .slice up hs.length uc] := by rw [hhs]; exact hc
            replace hh : HitsF w8 (fun j => (F j ∨ E j) ∨ (W3.heap.size ≤ j ∧ j < wo2.heap.size)) (.slice up hs.length uc) hs := by rw [hhs]; exact hh
            have hjL : j < LT.length := by rw [LTL.out]; exact hjl
            have LJ := Lib.hid (show LT[j] = hs by
              have h := HLT.out
              subst h
              rw [hhs, List.getElem_map])
            have HSV := Lib.hid (TV.out hs (by rw [← LJ.out]; exact List.getElem_mem hjL))
            obtain ⟨PS, hPS⟩ : ∃ PS : List Value, PS = [.int .i64 q.parts[j], .bool (hasTold t q.parts[j]), .slice up hs.length uc] := ⟨_, rfl⟩
            have RA : wr.rangeAt pb (po + j * 3) PS := by rw [hPS]; exact rangeAt_below hc BJ.out
            have SZP : (Tryd.prog.info? 112).map (·.size) = some PS.length := by rw [hPS]; kernel_rfl
            have SZP' : (Tryd.prog.info? 112).map (·.size) = some PS.toArray.size := by rw [hPS]; kernel_rfl
            have ONEP : PS.toArray.all (·.oneCell') = true := by rw [hPS]; simp [Value.oneCell']
            have hszp : (#[.int .i64 0, .bool false, .slice none 0 0] : Array Value).size = PS.toArray.size := by rw [hPS]; rfl
            obtain ⟨W5, hW5⟩ : ∃ W5, W5 = (wr.alloc (.cells #[.int .i64 0, .bool false, .slice none 0 0] 112)).setRow wr.heap.size PS.toArray := ⟨_, rfl⟩
            have b5 : Below wr.heap.size wr W5 := by rw [hW5]; exact below_setRow ((Below.refl _ _).alloc (Nat.le_refl _) _) (Nat.le_refl _) _
            have y5 : W5.heap[wr.heap.size]? = some (.cells PS.toArray 112 (0, 0)) := by rw [hW5]; exact setRow_heap _ _ _ _ _ _ (heap_alloc_new _ _)
            have d2 : W5.cell? ⟨wr.heap.size, 2, none⟩ = some (.slice up hs.length uc) := by rw [cells_get y5 2, hPS]; rfl
            have HW5 := Lib.hid hW5
            have H8 := Lib.hid hh
            have M5 := Lib.hid (M9.out.andBelow b5)
            have L5 := Lib.hid ((L9.out.below b5).mono (F' := fun b => w8.heap.size ≤ b ∧ b < W5.heap.size) fun b hb => ⟨hb.1, Nat.lt_of_lt_of_le hb.2 b5.size⟩)
            have hl5 : hs.length ≤ 9223372036854775807 := by have := HSV.out.1; omega
            clear hW5 hc hh b5 hPS y5 hhs
            go_upto_region 37 with (first | refine wpList_load_mid rfl 112 _ rfl pb (po + j * 3) (by rfl) PS _ RA Tryd.underlying112 rfl SZP ?_ | refine wpList_store_row rfl 112 _ _ rfl wr.heap.size PS.toArray (by rfl) (by rfl) 112 #[.int .i64 0, .bool false, .slice none 0 0] (heap_alloc_new _ _) SZP' hszp ONEP ?_)
            rw [← HW5.out]
            clear RA SZP SZP' ONEP hszp
            obtain ⟨wj, rfl⟩ : ∃ wj : World, wj = wr := ⟨_, rfl⟩
            go_wp2_with fail
            go_loopg [168] hs.length (fun m i wr => ∃ i' : Nat, m = hs.length - i' ∧ i' ≤ hs.length ∧ i = .int .i64 i' ∧ RefL wr (fun b => w8.heap.size ≤ b ∧ b < wr.heap.size) w8.heap.size mk (addsZ mk (mergeZ mk (LT.take j)) (hs.take i')).2 ∧ Mod (fun b => b = w8.heap.size) W9 wr)
            case atStart => exact ⟨0, rfl, by omega, rfl, L5.out, M5.out⟩
            case round =>
              obtain ⟨i', rfl, hi, rfl, hL, hM⟩ := hrel
              have MI := Lib.hid hM
              have LI := Lib.hid hL
              have BI := Lib.hid (show Below w8.heap.size w8 wr from B9.out.trans (hM.below (Nat.le_of_lt hl9w) (fun b (e : b = _) => by omega)))
              clear hL hM
              have GJ := Lib.hid (show GoodL mk (mergeZ mk (LT.take j)) from mergeZ_good hmk1 _ (fun ms hms h hh => by have := (TV.out ms (List.mem_of_mem_take hms)).2 h hh; omega))
              by_cases hil : i' < hs.length
              · obtain ⟨rs, hrs, hsrc, hel⟩ := H8.out.rows
                obtain ⟨hb, ho, vp', vc', hk', hpu, -, -, e0, e1, e2, hn, -⟩ := hel i' hil
                subst hpu
                have e0 := below_cells BI.out e0
                have e1 := below_cells BI.out e1
                have e2 := below_cells BI.out e2
                have hv8 := (HSV.out.2 hs[i'] (List.getElem_mem hil))
                have GI := Lib.hid (show GoodL mk (addsZ mk (mergeZ mk (LT.take j)) (hs.take i')).2 from addsZ_good hmk1 GJ.out _ (fun h hh => by have := HSV.out.2 h (List.mem_of_mem_take hh); omega))
                have AS := Lib.hid (show (addsZ mk (mergeZ mk (LT.take j)) (hs.take (i' + 1))).2 = (addZ mk (addsZ mk (mergeZ mk (LT.take j)) (hs.take i')).2 hs[i']).2 by rw [List.take_succ_eq_append_getElem hil, addsZ_snoc])
                obtain ⟨W6, hW6⟩ : ∃ W6, W6 = (wr.alloc (.cells #[.int .u64 0, .int .u64 0, .slice none 0 0] 40)).setRow wr.heap.size #[.int .u64 hs[i'].id, .int .u64 hs[i'].dist, .slice vp' hs[i'].vec.length vc'] := ⟨_, rfl⟩
                have b6 : Below wr.heap.size wr W6 := by rw [hW6]; exact below_setRow ((Below.refl _ _).alloc (Nat.le_refl _) _) (Nat.le_refl _) _
                have y6 : W6.heap[wr.heap.size]? = some (.cells #[.int .u64 hs[i'].id, .int .u64 hs[i'].dist, .slice vp' hs[i'].vec.length vc'] 40 (0, 0)) := by rw [hW6]; exact setRow_heap _ _ _ _ _ _ (heap_alloc_new _ _)
                have L6 := (LI.out.below b6).mono (F' := fun b => w8.heap.size ≤ b ∧ b < W6.heap.size) fun b hb => ⟨hb.1, Nat.lt_of_lt_of_le hb.2 b6.size⟩
                have AD := Lib.hid (refAdd _ w8.heap.size mk _ hs[i'] (.slice vp' hs[i'].vec.length vc') W6 hmk1 (by have := GI.out.len; omega) L6 (fun b hb => hb.2) GI.out ((hn.below BI.out).below b6) (by omega))
                have RH : wr.rangeAt hb (ho + i' * 3) [.int .u64 hs[i'].id, .int .u64 hs[i'].dist, .slice vp' hs[i'].vec.length vc'] := fun jj u hj => by
                  have : jj = 0 ∨ jj = 1 ∨ jj = 2 := by have := (List.getElem?_eq_some_iff.1 hj).1; simp at this; omega
                  rcases this with rfl | rfl | rfl
                  · cases hj; exact e0
                  · cases hj; exact e1
                  · cases hj; exact e2
                have HW6 := Lib.hid hW6
                have M6 := Lib.hid (MI.out.andBelow b6)
                have hs6 := b6.size
                clear hrs hsrc hel hn e0 e1 e2 L6 hW6 b6
                go_upto_region 40 with (first | refine wpList_load_mid rfl 40 _ rfl hb (ho + i' * 3) (by rfl) [.int .u64 hs[i'].id, .int .u64 hs[i'].dist, .slice vp' hs[i'].vec.length vc'] _ RH Tryd.underlying40 rfl (by kernel_rfl) ?_ | refine wpList_store_row rfl 40 _ _ rfl wr.heap.size #[.int .u64 hs[i'].id, .int .u64 hs[i'].dist, .slice vp' hs[i'].vec.length vc'] (by rfl) (by rfl) 40 #[.int .u64 0, .int .u64 0, .slice none 0 0] (heap_alloc_new _ _) (by kernel_rfl) rfl (by simp [Value.oneCell']) ?_)
                rw [← HW6.out]
                clear RH
                go_wp2_with (refine wpList_load_row rfl 40 _ rfl wr.heap.size (by rfl) 40 #[.int .u64 hs[i'].id, .int .u64 hs[i'].dist, .slice vp' hs[i'].vec.length vc'] (0, 0) _ y6 Tryd.underlying40 rfl (by kernel_rfl) ?_)
                with_reducible refine AD.out.mono ?_
                rintro e w7 ⟨rfl, hL7, hM7⟩
                rw [← AS.out] at hL7
                have NX := Lib.hid (And.intro (hL7.mono (F' := fun b => w8.heap.size ≤ b ∧ b < w7.heap.size) fun b hb => hb.elim (fun h => ⟨h.1, Nat.lt_of_lt_of_le h.2 hM7.size⟩) (fun h => ⟨by have := BI.out.size; omega, h.2⟩)) (M6.out.trans hM7 (fun _ _ h => h)))
                clear hL7 hM7
                go_wp2_with fail
                go_roundg (hs.length - (i' + 1))
                case measure => omega
                case rel => exact ⟨i' + 1, rfl, by omega, by go_num, NX.out.1, NX.out.2⟩
              · obtain rfl : i' = hs.length := by omega
                have NX := Lib.hid (show RefL wr (fun b => w8.heap.size ≤ b ∧ b < wr.heap.size) w8.heap.size mk (mergeZ mk (LT.take (j + 1))) by
                  rw [List.take_succ_eq_append_getElem hjL, mergeZ_snoc, LJ.out]
                  have h := LI.out
                  rw [List.take_length] at h
                  exact h)
                go_wp2_with fail
                go_roundg (q.parts.length - (j + 1))
                case measure => omega
                case rel => exact ⟨j + 1, rfl, by omega, by go_num, NX.out, MI.out⟩
          · obtain rfl : j = q.parts.length := by omega
            have x3 := (World.cell?_of_block (a := ⟨wo.heap.size, 3, none⟩) (M9.out.block wo.heap.size (by have := lt_block Y8.out; omega) (by have := lt_block Y8.out; omega))).trans x3
            have x16 := (World.cell?_of_block (a := ⟨wo.heap.size, 16, none⟩) (M9.out.block wo.heap.size (by have := lt_block Y8.out; omega) (by have := lt_block Y8.out; omega))).trans x16
            have x17 := (World.cell?_of_block (a := ⟨wo.heap.size, 17, none⟩) (M9.out.block wo.heap.size (by have := lt_block Y8.out; omega) (by have := lt_block Y8.out; omega))).trans x17
            have GJ := Lib.hid (show GoodL mk (mergeZ mk LT) from mergeZ_good hmk1 _ (fun ms hms h hh => by have := (TV.out ms hms).2 h hh; omega))
            have LF := Lib.hid (show RefL wr (fun b => w8.heap.size ≤ b ∧ b < wr.heap.size) w8.heap.size mk (mergeZ mk LT) by
              have h := L9.out
              rw [← LTL.out, List.take_length] at h
              exact h)
            have BF := Lib.hid BJ.out
            go_upto_region 43 with fail
            obtain ⟨Wd, hWd⟩ : ∃ Wd, Wd = wr.drew := ⟨_, rfl⟩
            have bd : Below wr.heap.size wr Wd := by rw [hWd]; exact (Below.refl _ _).drew
            have HWd := Lib.hid hWd
            have RA := Lib.hid (refAll _ w8.heap.size mk mk (mergeZ mk LT) Wd (LF.out.below bd) GJ.out (by have := GJ.out.len; omega))
            have BD := Lib.hid (BF.out.trans (bd.mono BF.out.size))
            clear hWd
            refine region_goN 10 (fun w' => w'.cell? ⟨wo.heap.size, 3, none⟩ = some (.int .u64 q.note.stamp) ∧ w'.cell? ⟨wo.heap.size, 16, none⟩ = some (.int .i64 q.who) ∧ w'.cell? ⟨wo.heap.size, 17, none⟩ = some (.int .u64 q.query)) (by kernel_rfl) ?hS0 (fun hH => ?_)
            case hS0 =>
              rw [← HWd.out]; exact ⟨below_cells bd x3, below_cells bd x16, below_cells bd x17⟩
            rw [← HWd.out] at hH ⊢
            refine kYN 0 hH ?_
            repeat simp only [Act.put, uA1, uB1, uC1]
            refine kYN 1 hH ?_
            repeat simp only [Act.put, uA1, uB1, uC1]
            refine kYN 2 hH ?_
            repeat simp only [Act.put, uA1, uB1, uC1]
            refine kYN 3 hH ?_
            repeat simp only [Act.put, uA1, uB1, uC1]
            refine kYN 4 hH ?_
            repeat simp only [Act.put, uA1, uB1, uC1]
            refine kYN 5 hH ?_
            repeat simp only [Act.put, uA1, uB1, uC1]
            refine kYN 6 hH ?_
            repeat simp only [Act.put, uA1, uB1, uC1]
            refine kYN 7 hH ?_
            repeat simp only [Act.put, uA1, uB1, uC1]
            refine spkN 8 rfl (by decide) (by decide +kernel) (by rfl) (fun K' hK => ?_)
            go_simp
            with_reducible refine RA.out.mono ?_
            rintro e w10 ⟨v10, rfl, hh10, hb10⟩
            obtain ⟨q10, c10, rfl, -⟩ := id hh10
            have BT := Lib.hid (BD.out.trans (hb10.mono BD.out.size))
            have RS := Lib.hid (dresult q.who q.query q.note.stamp 0 _ _ _ w10 hh10 (fun b hb => hb.elim (fun h => Nat.lt_of_lt_of_le h.2 (Nat.le_trans bd.size hb10.size)) (fun h => h.2)))
            try dsimp only
            refine hK.out _ _ ?hS (fun hH' => ?_)
            case hS =>
              exact ⟨below_cells hb10 hH.1, below_cells hb10 hH.2.1, below_cells hb10 hH.2.2⟩
            clear hK K' hH; have hH := hH'; clear hH'; repeat simp only [Act.put, uA1, uB1, uC1]
            refine spkN 9 rfl (by decide) (by decide +kernel) (by rfl) (fun K' hK => ?_)
            go_simp
            with_reducible refine RS.out.mono ?_
            intro e w11 hN
            have FIN := Lib.hid (DTold.after (F := F) (E := E) (GM.out.1.below BT.out) (GM.out.2.andBelow BT.out) PL8.out hN)
            obtain ⟨v3, rs3, G3, rfl, -, -, -, -, hbn⟩ := hN
            try dsimp only
            refine hK.out _ _ ?hS (fun hH' => ?_)
            case hS =>
              exact ⟨below_cells hbn hH.1, below_cells hbn hH.2.1, below_cells hbn hH.2.2⟩
            clear hK K' hH; have hH := hH'; clear hH'; repeat simp only [Act.put, uA1, uB1, uC1]
            refine spkL rfl (by decide +kernel) (by rfl) (fun K' hK => ?_)
            go_simp
            try dsimp only
            refine hK.out _ _ ?_
            clear hK K' hH; repeat simp only [Act.put, uA1, uB1, uC1]
            refine anyBut_done (by decide +kernel) ?_ _
            skip
            go_wp2_with fail
            go_ret
            rw [AZ.out, AN.out]
            exact FIN.out

end Go.Proofs.YtfmlhdikagogcaaDoor
