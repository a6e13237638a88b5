/- maze's laws: MazeOwns. -/
import Derived.Test.YtpjbkaibgajpcaaGreatMzI
import Derived.Test.YtpjbkaibgajpcaaGreatJ09
namespace Go.Proofs.YtpjbkaibgajpcaaGreat
open Go.RowKit Go.ChangeMaps
set_option maxRecDepth 20000

theorem held_row {w w' : World} {B : Nat} {rs : List Hv} {L : List Hz} (h : Held3 w B 21 rs L) {j : Nat} (h1 : j < rs.length) (h2 : j < L.length) (hm : Mod (fun b => ∃ r ∈ rs.take j, r.vec.ownBlock = some b) w w') : w'.ownsRow B 21 1 rs[j].vec L[j].vec.length (L[j].vec.map (Value.int .i32)) := by
  refine own_agree (h.own j h1 h2).2 fun b hb => hm.block b ((h.own j h1 h2).2.lt b hb).2 ?_
  rintro ⟨r, hr, e⟩
  obtain ⟨t, ht, rfl⟩ := List.getElem_of_mem hr
  rw [List.length_take] at ht
  rw [List.getElem_take] at e
  rcases List.pairwise_iff_getElem.1 h.apart t j (by omega) h1 (by omega) with h3 | h3
  · rw [e] at h3; cases h3
  · exact h3 (e.trans hb.symm)

theorem held_type {w : World} {B j : Nat} {rs : List Hv} {L : List Hz} (h : Held3 w B 21 rs L) {b : Nat} (hb : ∃ r ∈ rs.take j, r.vec.ownBlock = some b) : OfType w 21 b ∧ B ≤ b := by
  obtain ⟨r, hr, e⟩ := hb
  obtain ⟨t, ht, rfl⟩ := List.getElem_of_mem (List.mem_of_mem_take hr)
  have := h.len
  have h2 := (h.own t ht (by omega)).2
  exact ⟨own_type h2 e, (h2.lt b e).1⟩

theorem held_hits {w w' : World} {B B' n j : Nat} {v : Value} {xs : List Value} {rs : List Hv} {L : List Hz} (h : Held3 w B 21 rs L) (ho : w.ownsRow B' 38 3 v n xs) (hm : Mod (fun b => ∃ r ∈ rs.take j, r.vec.ownBlock = some b) w w') : w'.ownsRow B' 38 3 v n xs :=
  own_agree ho fun b hb => hm.block b (ho.lt b hb).2 fun hf => absurd (OfType.ne (own_type ho hb) (held_type h hf).1) (by decide)

theorem row_cellH {w : World} {B n c : Nat} {p : Option Addr} {l : List Int} (h : w.ownsRow B 36 1 (.slice p n c) n (l.map (Value.int .u64))) {j : Nat} (hj : j < l.length) : ∃ g, p = some ⟨g, 0, none⟩ ∧ w.cell? ⟨g, j, none⟩ = some (.int .u64 l[j]) := by
  have hn : l.length = n := by simpa using h.1
  subst hn
  obtain ⟨g, cap', hve, -, hgl⟩ := h.form (by omega)
  obtain ⟨rfl, -, rfl⟩ := Value.slice.inj hve
  exact ⟨g, rfl, by rw [World.ownsRow.cellAt h j (by omega), List.getElem?_map, List.getElem?_eq_getElem hj]; rfl⟩

theorem own_setU {w : World} {B e n g t : Nat} {v : Value} {xs : List Int} (h : w.ownsRow B e 1 v n (xs.map (Value.int .u64))) (hg : v.ownBlock = some g) (ht : t < n) (val : Int) :
    (w.setCell ⟨g, t, none⟩ (.int .u64 val)).ownsRow B e 1 v n ((xs.set t val).map (Value.int .u64)) := by
  have := own_setCell h hg (o := t) (by omega) (.int .u64 val)
  rw [List.map_set]
  exact this

structure Rws (w : World) (B : Nat) (vs : List Value) (ls : List (List Int)) : Prop where
  len : vs.length = ls.length
  own : ∀ t (h1 : t < vs.length) (h2 : t < ls.length), w.ownsRow B 36 1 vs[t] ls[t].length (ls[t].map (Value.int .u64))
  apart : vs.Pairwise fun p q => p.ownBlock = none ∨ p.ownBlock ≠ q.ownBlock

theorem Rws.row {w w' : World} {B : Nat} {vs : List Value} {ls : List (List Int)} (h : Rws w B vs ls) {j : Nat} (h1 : j < vs.length) (h2 : j < ls.length) (hm : Mod (fun b => ∃ r ∈ vs.take j, r.ownBlock = some b) w w') : w'.ownsRow B 36 1 vs[j] ls[j].length (ls[j].map (Value.int .u64)) := by
  refine own_agree (h.own j h1 h2) fun b hb => hm.block b ((h.own j h1 h2).lt b hb).2 ?_
  rintro ⟨r, hr, e⟩
  obtain ⟨t, ht, rfl⟩ := List.getElem_of_mem hr
  rw [List.length_take] at ht
  rw [List.getElem_take] at e
  rcases List.pairwise_iff_getElem.1 h.apart t j (by omega) h1 (by omega) with h3 | h3
  · rw [e] at h3; cases h3
  · exact h3 (e.trans hb.symm)

theorem Rws.low {w : World} {B j : Nat} {vs : List Value} {ls : List (List Int)} (h : Rws w B vs ls) {b : Nat} (hb : ∃ r ∈ vs.take j, r.ownBlock = some b) : B ≤ b ∧ b < w.heap.size := by
  obtain ⟨r, hr, e⟩ := hb
  obtain ⟨t, ht, rfl⟩ := List.getElem_of_mem (List.mem_of_mem_take hr)
  have := h.len
  exact (h.own t ht (by omega)).lt b e

theorem Rws.three {w1 w2 w3 w : World} {B : Nat} {v1 v2 v3 : Value} {l1 l2 l3 : List Int} (h1 : w1.ownsRow B 36 1 v1 l1.length (l1.map (Value.int .u64))) (b1 : Below w1.heap.size w1 w2)
    (h2 : w2.ownsRow w1.heap.size 36 1 v2 l2.length (l2.map (Value.int .u64))) (b2 : Below w2.heap.size w2 w3) (h3 : w3.ownsRow w2.heap.size 36 1 v3 l3.length (l3.map (Value.int .u64))) (b3 : Below w3.heap.size w3 w) (hB : B ≤ w1.heap.size) : Rws w B [v1, v2, v3] [l1, l2, l3] := by
  have s1 := b1.size
  have s2 := b2.size
  refine ⟨rfl, fun t ht _ => ?_, ?_⟩
  · have ht3 : t < 3 := ht
    match t, ht3 with
    | 0, _ => exact own_below (own_below (own_below h1 b1) b2) b3
    | 1, _ => exact own_mono (own_below (own_below h2 b2) b3) hB
    | 2, _ => exact own_mono (own_below h3 b3) (by omega)
  · have n12 : v1.ownBlock = none ∨ v1.ownBlock ≠ v2.ownBlock := by
      cases e : v1.ownBlock with
      | none => exact .inl rfl
      | some b =>
        refine .inr fun e2 => ?_
        have := (h1.lt b e).2
        have := (h2.lt b e2.symm).1
        omega
    have n13 : v1.ownBlock = none ∨ v1.ownBlock ≠ v3.ownBlock := by
      cases e : v1.ownBlock with
      | none => exact .inl rfl
      | some b =>
        refine .inr fun e2 => ?_
        have := (h1.lt b e).2
        have := (h3.lt b e2.symm).1
        omega
    have n23 : v2.ownBlock = none ∨ v2.ownBlock ≠ v3.ownBlock := by
      cases e : v2.ownBlock with
      | none => exact .inl rfl
      | some b =>
        refine .inr fun e2 => ?_
        have := (h2.lt b e).2
        have := (h3.lt b e2.symm).1
        omega
    simp only [List.pairwise_cons, List.mem_cons, List.not_mem_nil, or_false, forall_eq_or_imp, forall_eq]
    exact ⟨⟨n12, n13⟩, n23, fun _ h => h.elim, List.Pairwise.nil⟩


set_option maxRecDepth 100000 in
set_option maxHeartbeats 16000000 in
theorem mazeOwns (w : World) (l : List (Int × List Int)) (nv : Value) (hR : Recs w nv l) (v : Value) (xs : List Int) (hv : Nums w .i32 v xs) (by_ : Int) :
    Law 7 #[nv, v, .int .i32 by_] w := by
  have cA := Lib.hid (awake11 w)
  have LR := Lib.hid hR
  have V := Lib.hid hv
  obtain ⟨vq, vc, rfl, -, -, -, -⟩ := hv.slice
  clear hR hv
  go_enter Tryz.func7, Tryz.ntmps7
  go_wp2_with fail
  (with_reducible refine cA.out.mono ?_)
  rintro e w1 ⟨rfl, hb1⟩
  have cL := lzLay w1 2 l nv (LR.out.below hb1) 30 (by omega)
  rw [show ((30 : Nat) : Int) = 30 from rfl] at cL
  have cL := Lib.hid cL
  have B1 := Lib.hid hb1
  clear hb1
  go_wp2_with fail
  (with_reducible refine cL.out.mono ?_)
  rintro e w2 (⟨hno, -⟩ | ⟨-, z, p, m, mv, Q, VL, B', x, c, vn, ve, xlv, rs, rfl, hA, hX, hb2⟩)
  · exact absurd ⟨by decide, by decide⟩ hno
  have B2 := Lib.hid (B1.out.trans (hb2.mono B1.out.size))
  have OK := Lib.hid (layM_ok 2 l 30)
  have hlen := layM_len 2 l 30
  obtain ⟨s, hs⟩ : ∃ s, s = layM 2 l 30 := ⟨_, rfl⟩
  rw [← hs] at hA hX OK hlen
  have A2 := Lib.hid hA
  have X2 := Lib.hid hX
  have LM := Lib.hid hs
  clear hb2 hs hA hX
  have cC := cutVec xs (.slice vq xs.length vc) 2 w2 (V.out.below B2.out) (by decide) (.inr (by decide))
  rw [show Int.toNat 2 = 2 from rfl] at cC
  have cC := Lib.hid cC
  go_wp2_with fail
  (with_reducible refine cC.out.mono ?_)
  rintro e w3 ⟨v3, rfl, ho3, hb3⟩
  obtain ⟨pq3, hq3⟩ : ∃ q, q = xs.take 2 := ⟨_, rfl⟩
  have hq3l : pq3.length ≤ 2 := by rw [hq3]; exact List.length_take_le _ _
  rw [← hq3] at ho3
  obtain ⟨vq3, vn3, vc3, rfl⟩ := own_form ho3
  obtain rfl : vn3 = pq3.length := own_len ho3
  obtain ⟨W3, hW3⟩ : ∃ W3, W3 = w3.alloc (.cells #[.int .i32 0, .int .i32 0] 21) := ⟨_, rfl⟩
  have hb3a : Below w3.heap.size w3 W3 := by rw [hW3]; exact (Below.refl _ _).alloc (Nat.le_refl _) _
  have y3 : W3.heap[w3.heap.size]? = some (.cells #[.int .i32 0, .int .i32 0] 21 (0, 0)) := by rw [hW3]; exact heap_alloc_new _ _
  have hsrc : SrcAt W3 (some ⟨w3.heap.size, 0, none⟩) 2 2 1 [.int .i32 0, .int .i32 0] := by
    have h1 : Nums W3 .i32 (.slice (some ⟨w3.heap.size, 0, none⟩) 2 2) [0, 0] := Nums.mk (xs := [0, 0]) (by simp) (by simp) (by simp) (fun i hi => ⟨w3.heap.size, 0, rfl, by
      have hi2 : i < 2 := hi
      match i, hi2 with
      | 0, _ => exact cellsB y3 0
      | 1, _ => exact cellsB y3 1⟩)
    exact SrcAt.of_nums (xs := [0, 0]) h1
  obtain ⟨aq, an, ac, w4, hrun4, hown4, hg4, -⟩ := run_app rowI32M (own_below ho3 hb3a) (Nat.le_trans hb3.size hb3a.size) hsrc (by simp [Value.oneCell']) (by simp [maxLen]; omega) (by omega)
  obtain rfl : pq3.length + 2 = an := (own_len hown4).symm
  obtain ⟨ga, ca, hva, -, -⟩ := hown4.form (by omega)
  obtain ⟨rfl, -, rfl⟩ := Value.slice.inj hva
  have hb4 : Below w2.heap.size w2 w4 := (hb3.trans (hb3a.mono hb3.size)).grown hg4 (Nat.le_trans hb3.size hb3a.size) (fun b hb => (ho3.lt b hb).1)
  obtain ⟨ys, hys⟩ : ∃ ys, ys = (pq3 ++ [0, 0]).take 2 := ⟨_, rfl⟩
  have hyl : ys.length = 2 := by rw [hys]; simp
  have ho4 : w4.ownsRow w2.heap.size 21 1 (.slice (some ⟨ga, 0, none⟩) 2 ac) 2 (ys.map (Value.int .i32)) := by
    have h1 := own_prefix hown4 (k := 2) (by omega)
    rw [hys, List.map_take, List.map_append]
    simpa using h1
  have hac : (2 : Int) ≤ ac := by
    obtain ⟨-, ⟨h2, -⟩ | ⟨g', cap', cur, hv, -, -, hn, -⟩⟩ := hown4
    · cases h2
    · obtain ⟨-, -, rfl⟩ := Value.slice.inj hv
      omega
  have YS := Lib.hid (And.intro hyl (hys.trans (by rw [hq3])))
  have O4 := Lib.hid ho4
  have A4 := Lib.hid (A2.out.below hb4)
  have X4 := Lib.hid (X2.out.below hb4)
  have B4 := Lib.hid (B2.out.trans (hb4.mono B2.out.size))
  have B24 := Lib.hid hb4
  rw [hW3] at hrun4
  clear ho3 hb3 hq3 hW3 hb3a y3 hsrc hown4 hg4 hva hb4 hys ho4 hyl
  go_upto_region 6 with (with_reducible refine wpList_append_eq hrun4 rfl _ _ rfl rfl rfl ?_)
  have LEN := Lib.hid (show s.L.length ≤ 30 ∧ s.N.length ≤ 30 from ⟨hlen, by have := ok_len OK.out; omega⟩)
  have cF := Lib.hid (mFind A4.out rfl OK.out (by omega) (.slice (some ⟨ga, 0, none⟩) 2 ac) ys (Nums.of_own O4.out) 50)
  clear hlen hac
  go_wp2_with fail
  (with_reducible refine cF.out.mono ?_)
  rintro e w5 ⟨u5, rs5, rfl, ho5, hh5, hb5⟩
  have hb5 := Lib.hid hb5
  obtain ⟨R, hR⟩ : ∃ R, R = (findM 2 s ys 50).1 := ⟨_, rfl⟩
  rw [← hR] at hh5
  obtain ⟨uq, un5, uc5, rfl⟩ := own_form ho5
  obtain rfl : un5 = rs5.length := own_len ho5
  obtain ⟨n, hn⟩ : ∃ n, n = rs5.length := ⟨_, rfl⟩
  have NN := Lib.hid hn
  have HR := Lib.hid (hn.trans hh5.len)
  have hl63 : n ≤ 9223372036854775807 := by rw [hn]; exact own_short ho5
  rw [← hn] at ho5
  have O5 := Lib.hid (And.intro ho5 hh5)
  rw [← hn]
  clear ho5 hh5 hR hn
  go_wp2_with fail
  go_loopg [48] n (fun q' i wr => ∃ j : Nat, q' = n - j ∧ j ≤ n ∧ i = .int .i64 j ∧ Mod (fun b => ∃ r ∈ rs5.take j, r.vec.ownBlock = some b) w5 wr)
  case atStart => exact ⟨0, rfl, by omega, rfl, Mod.refl _ _⟩
  case round =>
    obtain ⟨j, rfl, hj, rfl, hmr⟩ := hrel
    by_cases hlt : j < n
    · have j1 : j < rs5.length := by have := NN.out; omega
      have j2 : j < R.length := by have := HR.out; omega
      have ho := held_hits O5.out.2 O5.out.1 hmr
      obtain ⟨g, cg, hv, -, -⟩ := ho.form (by have := NN.out; omega)
      obtain ⟨rfl, -, rfl⟩ := Value.slice.inj hv
      have hf := flat3_get rs5 j j1
      have e0 := own_cell ho rfl hf.1
      have e1 := own_cell ho rfl hf.2.1
      have e2 := own_cell ho rfl hf.2.2
      have hvec := held_row O5.out.2 j1 j2 hmr
      obtain ⟨up, un, uc, hu⟩ := own_form hvec
      rw [hu] at e2 hvec
      obtain rfl : un = R[j].vec.length := own_len hvec
      obtain ⟨m0, hm0⟩ : ∃ m, m = R[j].vec.length := ⟨_, rfl⟩
      obtain ⟨x0, hx0⟩ : ∃ x, x = R[j].vec := ⟨_, rfl⟩
      rw [← hm0] at e2 hvec hu
      rw [← hx0] at hvec hm0
      obtain ⟨yi, hyi⟩ : ∃ z, z = rs5[j].id := ⟨_, rfl⟩
      rw [← hyi] at e0
      obtain ⟨yd, hyd⟩ : ∃ z, z = rs5[j].dist := ⟨_, rfl⟩
      rw [← hyd] at e1
      obtain ⟨W6, hW6⟩ : ∃ W6, W6 = wr.alloc (.cells #[.int .u64 yi, .int .u64 yd, .slice up m0 uc] 38) := ⟨_, rfl⟩
      have hb6 : Below wr.heap.size wr W6 := by rw [hW6]; exact (Below.refl _ _).alloc (Nat.le_refl _) _
      have y6 : W6.heap[wr.heap.size]? = some (.cells #[.int .u64 yi, .int .u64 yd, .slice up m0 uc] 38 (0, 0)) := by rw [hW6]; exact heap_alloc_new _ _
      have TNE := Lib.hid (fun b (hb : (Value.slice up m0 uc).ownBlock = some b) => (hvec.lt b hb).2)
      have O6 := Lib.hid (own_below hvec hb6)
      have M6 := Lib.hid (show Mod (fun b => ∃ r ∈ rs5.take (j + 1), r.vec.ownBlock = some b) w5 W6 from (hmr.mono fun k _ hk => by
        obtain ⟨r, hr, e⟩ := hk
        exact ⟨r, List.take_subset_take_left _ (Nat.le_succ j) hr, e⟩).andBelow hb6)
      have UJ := Lib.hid (show ∀ b, (Value.slice up m0 uc).ownBlock = some b → ∃ r ∈ rs5.take (j + 1), r.vec.ownBlock = some b from fun b hb => ⟨rs5[j], List.mem_take_iff_getElem.2 ⟨j, by omega, rfl⟩, by rw [hu]; exact hb⟩)
      have hm63 : m0 ≤ 9223372036854775807 := own_short hvec
      have XL := Lib.hid (show x0.length = m0 from hm0.symm)
      have HW := Lib.hid hW6
      have Y6 := Lib.hid y6
      obtain ⟨t, ht⟩ : ∃ t, t = wr.heap.size := ⟨_, rfl⟩
      have TT := Lib.hid ht
      rw [← ht] at Y6
      clear hmr ho hv hf hvec hu hm0 hx0 hyi hyd hW6 hb6 y6 j1 j2
      go_wp2_with fail
      rw [← HW.out, ← ht]
      clear ht
      go_loopg [55] m0 (fun q' i wt => ∃ (tt : Nat) (xs' : List Int), q' = m0 - tt ∧ tt ≤ m0 ∧ i = .int .i64 tt ∧ xs'.length = m0 ∧ wt.ownsRow w4.heap.size 21 1 (.slice up m0 uc) m0 (xs'.map (Value.int .i32)) ∧ Mod (fun b => (Value.slice up m0 uc).ownBlock = some b) W6 wt)
      case atStart => exact ⟨0, x0, rfl, by omega, rfl, XL.out, O6.out, Mod.refl _ _⟩
      case round =>
        obtain ⟨tt, xs', rfl, htt, rfl, hxl, hown, hmt⟩ := hrel
        have t2 := cellsB ((hmt.block t (lt_block Y6.out) fun hf => by have := TNE.out t hf; have := TT.out; omega).trans Y6.out) 2
        by_cases hlt5 : tt < m0
        · obtain ⟨g, cg, hv, -, -⟩ := hown.form (by omega)
          obtain ⟨rfl, -, rfl⟩ := Value.slice.inj hv
          have e5 := own_cell hown rfl (show (xs'.map (Value.int .i32))[tt]? = some (.int .i32 (xs'[tt]'(by omega))) by simp [List.getElem?_eq_getElem (show tt < xs'.length by omega)])
          obtain ⟨hc0, hf0⟩ := own_there hown rfl tt 1 (by omega) 0 (by omega)
          simp only [Nat.add_zero] at hf0
          obtain ⟨yv, hyv⟩ : ∃ y, y = xs'[tt]'(by omega) := ⟨_, rfl⟩
          rw [← hyv] at e5
          have KK := Lib.hid (And.intro hown (And.intro hmt hxl))
          clear hown hmt hxl hv hyv hc0 e0 e1 e2
          go_wp2_with fail
          go_roundg (m0 - (tt + 1))
          case measure => omega
          case rel => exact ⟨tt + 1, xs'.set tt _, rfl, by omega, by go_num, by rw [List.length_set]; exact KK.out.2.2, own_setInt KK.out.1 rfl (by omega) _, KK.out.2.1.setCell (p := ⟨g, tt, none⟩) (.inl rfl) _⟩
        · have M9 := Lib.hid (M6.out.trans hmt fun k _ hk => UJ.out k hk)
          clear hown hmt hxl t2
          go_wp2_with fail
          go_roundg (n - (j + 1))
          case measure => omega
          case rel => exact ⟨j + 1, rfl, by omega, by go_num, M9.out⟩
    · have BR := Lib.hid (show Below w4.heap.size w4 wr from hb5.out.trans (hmr.mono (fun k _ hk => hk) |>.below hb5.out.size fun k hk => (held_type O5.out.2 hk).2))
      clear hmr
      have A6 := Lib.hid (A4.out.below BR.out)
      have X6 := Lib.hid (X4.out.below BR.out)
      have B6 := Lib.hid (B4.out.trans (BR.out.mono B4.out.size))
      have cK := A6.out.keys (by have := LEN.out; omega)
      have cK := Lib.hid cK
      go_wp2_with fail
      (with_reducible refine cK.out.mono ?_)
      rintro e w9 ⟨v9, rfl, ho9, hb9⟩
      obtain ⟨p9, n9, c9, rfl⟩ := own_form ho9
      obtain rfl : n9 = s.N.length := own_len ho9
      have R9 := Lib.hid ho9
      have A9 := Lib.hid (A6.out.below hb9)
      have X9 := Lib.hid (X6.out.below hb9)
      have B9 := Lib.hid (B6.out.trans (hb9.mono B6.out.size))
      obtain ⟨nN, hnN⟩ : ∃ n, n = s.N.length := ⟨_, rfl⟩
      have EQN := Lib.hid hnN
      have hn63 : nN ≤ 9223372036854775807 := by have := LEN.out; omega
      rw [← hnN]
      rw [← hnN] at R9
      have cVe := Lib.hid (fun W (hW : Below w9.heap.size w9 W) k => mVec (A9.out.below hW) OK.out k)
      have cNe := Lib.hid (fun W (hW : Below w9.heap.size w9 W) k => (A9.out.below hW).near (by have := LEN.out; omega) k)
      have cSo := Lib.hid (fun W (hW : Below w9.heap.size w9 W) k => (A9.out.below hW).soft (by have := LEN.out; omega) k)
      have cRe := Lib.hid (fun W (hW : Below w9.heap.size w9 W) k => (A9.out.below hW).reach (by have := LEN.out; omega) k)
      clear ho9 hb9 hnN
      go_wp2_with fail
      go_loopg [71] nN (fun q' i wr => ∃ j : Nat, q' = nN - j ∧ j ≤ nN ∧ i = .int .i64 j ∧ Below w9.heap.size w9 wr)
      case atStart => exact ⟨0, rfl, by omega, rfl, Below.refl _ _⟩
      case round =>
        obtain ⟨j, rfl, hj, rfl, hbr⟩ := hrel
        obtain ⟨wo, rfl⟩ : ∃ wo : World, wo = wr := ⟨_, rfl⟩
        by_cases hlt : j < nN
        · have hjn : j < s.N.length := by have := EQN.out; omega
          obtain ⟨g, rfl, e0⟩ := row_cellH (own_below R9.out hbr) hjn
          obtain ⟨k, hk⟩ : ∃ k, k = s.N[j] := ⟨_, rfl⟩
          rw [← hk] at e0
          have BR := Lib.hid hbr
          clear hk hbr hjn
          go_wp2_with fail
          (with_reducible refine (cVe.out _ BR.out k).mono ?_)
          rintro e w10 ⟨v10, rfl, ho10, hb10⟩
          obtain ⟨up, m0, uc, rfl⟩ := own_form ho10
          obtain ⟨x0, hx0⟩ : ∃ x, x = vecOf s.L k := ⟨_, rfl⟩
          rw [← hx0] at ho10
          obtain rfl : m0 = x0.length := own_len ho10
          have O10 := Lib.hid ho10
          have M10 := Lib.hid (show Mod (fun _ => False) wo w10 from Mod.of_below hb10)
          have hm63 : x0.length ≤ 9223372036854775807 := own_short ho10
          clear ho10 hb10 hx0 e0
          go_wp2_with fail
          go_loopg [83] x0.length (fun q' i wt => ∃ (tt : Nat) (xs' : List Int), q' = x0.length - tt ∧ tt ≤ x0.length ∧ i = .int .i64 tt ∧ xs'.length = x0.length ∧ wt.ownsRow wo.heap.size 21 1 (.slice up x0.length uc) x0.length (xs'.map (Value.int .i32)) ∧ Mod (fun _ => False) wo wt)
          case atStart => exact ⟨0, x0, rfl, by omega, rfl, rfl, O10.out, M10.out⟩
          case round =>
            obtain ⟨tt, xs', rfl, htt, rfl, hxl, hown, hmt⟩ := hrel
            by_cases hlt5 : tt < x0.length
            · obtain ⟨g, cg, hv, -, -⟩ := hown.form (by omega)
              obtain ⟨rfl, -, rfl⟩ := Value.slice.inj hv
              have e5 := own_cell hown rfl (show (xs'.map (Value.int .i32))[tt]? = some (.int .i32 (xs'[tt]'(by omega))) by simp [List.getElem?_eq_getElem (show tt < xs'.length by omega)])
              obtain ⟨hc0, hf0⟩ := own_there hown rfl tt 1 (by omega) 0 (by omega)
              simp only [Nat.add_zero] at hf0
              obtain ⟨yv, hyv⟩ : ∃ y, y = xs'[tt]'(by omega) := ⟨_, rfl⟩
              rw [← hyv] at e5
              have GL := Lib.hid (hown.lt g rfl).1
              have KK := Lib.hid (And.intro hown (And.intro hmt hxl))
              clear hown hmt hxl hv hyv hc0
              go_wp2_with fail
              go_roundg (x0.length - (tt + 1))
              case measure => omega
              case rel => exact ⟨tt + 1, xs'.set tt _, rfl, by omega, by go_num, by rw [List.length_set]; exact KK.out.2.2, own_setInt KK.out.1 rfl (by omega) _, KK.out.2.1.setCell (p := ⟨g, tt, none⟩) (.inr GL.out) _⟩
            · have BT := Lib.hid (show Below wo.heap.size wo wr from hmt.below (Nat.le_refl _) fun _ h => h.elim)
              have B11 := Lib.hid (BR.out.trans (BT.out.mono BR.out.size))
              clear hown hmt hxl
              go_wp2_with fail
              (with_reducible refine (cNe.out _ B11.out k).mono ?_)
              rintro e w11 ⟨v11, rfl, ho11, hb11⟩
              obtain ⟨p11, n11, c11, rfl⟩ := own_form ho11
              have B12 := Lib.hid (B11.out.trans (hb11.mono B11.out.size))
              have O11 := Lib.hid (And.intro ho11 hb11)
              clear ho11 hb11
              go_wp2_with fail
              (with_reducible refine (cSo.out _ B12.out k).mono ?_)
              rintro e w12 ⟨v12, rfl, ho12, hb12⟩
              obtain ⟨p12, n12, c12, rfl⟩ := own_form ho12
              have B13 := Lib.hid (B12.out.trans (hb12.mono B12.out.size))
              have O12 := Lib.hid (And.intro ho12 hb12)
              clear ho12 hb12
              go_wp2_with fail
              (with_reducible refine (cRe.out _ B13.out k).mono ?_)
              rintro e w13 ⟨v13, rfl, ho13, hb13⟩
              obtain ⟨p13, n13, c13, rfl⟩ := own_form ho13
              obtain ⟨W15, hW15⟩ : ∃ W, W = w13.alloc (.cells #[.slice p11 n11 c11, .slice p12 n12 c12, .slice p13 n13 c13] 45) := ⟨_, rfl⟩
              have hb15 : Below w13.heap.size w13 W15 := by rw [hW15]; exact (Below.refl _ _).alloc (Nat.le_refl _) _
              have y15 : W15.heap[w13.heap.size]? = some (.cells #[.slice p11 n11 c11, .slice p12 n12 c12, .slice p13 n13 c13] 45 (0, 0)) := by rw [hW15]; exact heap_alloc_new _ _
              have RW := Lib.hid (Rws.three O11.out.1 O12.out.2 O12.out.1 hb13 ho13 hb15 O11.out.2.size)
              have TNE := Lib.hid (show ∀ b jj, (∃ r ∈ [Value.slice p11 n11 c11, .slice p12 n12 c12, .slice p13 n13 c13].take jj, r.ownBlock = some b) → b < w13.heap.size from fun b jj hf => by
                obtain ⟨r, hr, e⟩ := hf
                have hr := List.mem_of_mem_take hr
                have s12 := O12.out.2.size
                have s13 := hb13.size
                simp only [List.mem_cons, List.not_mem_nil, or_false] at hr
                rcases hr with rfl | rfl | rfl
                · have := (O11.out.1.lt b e).2; omega
                · have := (O12.out.1.lt b e).2; omega
                · exact (ho13.lt b e).2)
              have BW := Lib.hid (show Below wo.heap.size wo W15 from (BT.out.trans (((O11.out.2.trans (O12.out.2.mono O11.out.2.size)).trans ((hb13.trans (hb15.mono hb13.size)).mono (Nat.le_trans O11.out.2.size O12.out.2.size))).mono BT.out.size)))
              have HW := Lib.hid hW15
              have Y15 := Lib.hid y15
              obtain ⟨vs, hvs⟩ : ∃ vs, vs = [Value.slice p11 n11 c11, .slice p12 n12 c12, .slice p13 n13 c13] := ⟨_, rfl⟩
              obtain ⟨ls, hls⟩ : ∃ ls, ls = [nearD s.E k false, nearD s.E k true, reachD s.N s.E k false] := ⟨_, rfl⟩
              obtain ⟨t, ht⟩ : ∃ t, t = w13.heap.size := ⟨_, rfl⟩
              have CELL := Lib.hid (show ∀ jj (hjj : jj < vs.length), W15.cell? ⟨t, jj, none⟩ = some vs[jj] from by
                subst hvs
                rw [ht]
                intro jj hjj
                have h3 : jj < 3 := hjj
                match jj, h3 with
                | 0, _ => exact cellsB y15 0
                | 1, _ => exact cellsB y15 1
                | 2, _ => exact cellsB y15 2)
              have VL3 := Lib.hid (show vs.length = 3 ∧ ls.length = 3 from by rw [hvs, hls]; exact ⟨rfl, rfl⟩)
              rw [← hvs, ← hls] at RW
              rw [← hvs, ← ht] at TNE
              rw [← ht] at Y15
              clear ho13 hb13 hW15 hb15 y15 hvs hls
              go_wp2_with fail
              rw [← HW.out, ← ht]
              clear ht
              go_loopg [105] 3 (fun q' i wt => ∃ jj : Nat, q' = 3 - jj ∧ jj ≤ 3 ∧ i = .int .i64 jj ∧ Mod (fun b => ∃ r ∈ vs.take jj, r.ownBlock = some b) W15 wt)
              case atStart => exact ⟨0, rfl, by omega, rfl, Mod.refl _ _⟩
              case round =>
                obtain ⟨jj, rfl, hjj, rfl, hmj⟩ := hrel
                obtain ⟨wj, rfl⟩ : ∃ wj : World, wj = wr := ⟨_, rfl⟩
                by_cases hlt3 : jj < 3
                · have hd3 : (jj : Int) < 3 := by omega
                  have hd4 : decide (jj < 3) = true := decide_eq_true hlt3
                  have q1 : jj < vs.length := by rw [VL3.out.1]; exact hlt3
                  have q2 : jj < ls.length := by rw [VL3.out.2]; exact hlt3
                  have hrow := RW.out.row q1 q2 hmj
                  have c00 := CELL.out jj q1
                  have c0 : wj.cell? ⟨t, jj, none⟩ = some vs[jj] := by
                    have h7 := hmj.block t (lt_block Y15.out) fun hf => by have := TNE.out t jj hf; omega
                    rw [← c00]
                    simp only [World.cell?, h7]
                  clear c00
                  obtain ⟨up, m1, uc, hu⟩ := own_form hrow
                  rw [hu] at c0 hrow
                  obtain ⟨x1, hx1⟩ : ∃ x, x = ls[jj] := ⟨_, rfl⟩
                  rw [← hx1] at hrow
                  obtain rfl : m1 = x1.length := own_len hrow
                  have hm63 : x1.length ≤ 9223372036854775807 := own_short hrow
                  have O1 := Lib.hid (own_mono hrow BT.out.size)
                  have M1 := Lib.hid (show Mod (fun b => ∃ r ∈ vs.take (jj + 1), r.ownBlock = some b) W15 wj from hmj.mono fun k _ hk => by
                    obtain ⟨r, hr, e⟩ := hk
                    exact ⟨r, List.take_subset_take_left _ (Nat.le_succ jj) hr, e⟩)
                  have UJ := Lib.hid (show ∀ b, (Value.slice up x1.length uc).ownBlock = some b → ∃ r ∈ vs.take (jj + 1), r.ownBlock = some b from fun b hb => ⟨vs[jj], List.mem_take_iff_getElem.2 ⟨jj, by omega, rfl⟩, by rw [hu]; exact hb⟩)
                  clear hmj hrow hu hx1 q1 q2
                  go_wp2_with fail
                  go_loopg [111] x1.length (fun q' i wu => ∃ (tt : Nat) (xs' : List Int), q' = x1.length - tt ∧ tt ≤ x1.length ∧ i = .int .i64 tt ∧ xs'.length = x1.length ∧ wu.ownsRow wo.heap.size 36 1 (.slice up x1.length uc) x1.length (xs'.map (Value.int .u64)) ∧ Mod (fun b => (Value.slice up x1.length uc).ownBlock = some b) wj wu)
                  case atStart => exact ⟨0, x1, rfl, by omega, rfl, rfl, O1.out, Mod.refl _ _⟩
                  case round =>
                    obtain ⟨tt, xs', rfl, htt, rfl, hxl, hown, hmt⟩ := hrel
                    by_cases hlt5 : tt < x1.length
                    · obtain ⟨g, cg, hv, -, -⟩ := hown.form (by omega)
                      obtain ⟨rfl, -, rfl⟩ := Value.slice.inj hv
                      have e5 := own_cell hown rfl (show (xs'.map (Value.int .u64))[tt]? = some (.int .u64 (xs'[tt]'(by omega))) by simp [List.getElem?_eq_getElem (show tt < xs'.length by omega)])
                      obtain ⟨hc0, hf0⟩ := own_there hown rfl tt 1 (by omega) 0 (by omega)
                      simp only [Nat.add_zero] at hf0
                      obtain ⟨yv, hyv⟩ : ∃ y, y = xs'[tt]'(by omega) := ⟨_, rfl⟩
                      rw [← hyv] at e5
                      have KK := Lib.hid (And.intro hown (And.intro hmt hxl))
                      clear hown hmt hxl hv hyv hc0 c0
                      go_wp2_with fail
                      go_roundg (x1.length - (tt + 1))
                      case measure => omega
                      case rel => exact ⟨tt + 1, xs'.set tt _, rfl, by omega, by go_num, by rw [List.length_set]; exact KK.out.2.2, own_setU KK.out.1 rfl (by omega) _, KK.out.2.1.setCell (p := ⟨g, tt, none⟩) (.inl rfl) _⟩
                    · have M9 := Lib.hid (M1.out.trans hmt fun k _ hk => UJ.out k hk)
                      clear hown hmt hxl
                      go_wp2_with fail
                      go_roundg (3 - (jj + 1))
                      case measure => omega
                      case rel => exact ⟨jj + 1, rfl, by omega, by go_num, M9.out⟩
                · have BF := Lib.hid (BR.out.trans ((BW.out.trans (hmj.below BW.out.size fun b hb => Nat.le_trans BT.out.size (RW.out.low hb).1)).mono BR.out.size))
                  clear hmj
                  go_wp2_with fail
                  go_roundg (nN - (j + 1))
                  case measure => omega
                  case rel => exact ⟨j + 1, rfl, by omega, by go_num, BF.out⟩
        · have cS := Lib.hid (lzSame (A9.out.below hbr) (X9.out.below hbr) OK.out (by have := LEN.out; omega))
          have BF := Lib.hid (B9.out.trans (hbr.mono B9.out.size))
          clear hbr
          go_wp2_with fail
          (with_reducible refine cS.out.mono ?_)
          rintro e wz ⟨rfl, hbz⟩
          have BZ := Lib.hid (BF.out.trans (hbz.mono BF.out.size))
          clear hbz
          go_wp2_with fail
          go_ret
          exact ⟨rfl, BZ.out⟩

end Go.Proofs.YtpjbkaibgajpcaaGreat
