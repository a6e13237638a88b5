/- maze: Put. maze: New, Vec, Entry. -/
import Derived.Test.YtpjbkaibgajpcaaGreatJ35
namespace Go.Proofs.YtpjbkaibgajpcaaGreat
open Go.RowKit Go.ChangeMaps
set_option maxRecDepth 20000

theorem OkM.mid {dim : Int} {s : Mz} (h : OkM dim s) {k : Int} {v : List Int} (hv : rightZ dim v = true) (hk : k ∉ s.N) {nr : List Hz} (hn : nr.length ≤ 4) (j : Nat) : OkM dim ⟨putZ s.N k, pruneN (s.L ++ [⟨k, 0, v⟩]) (putZ s.N k) nr j (linkN (putZ s.N k) k nr nr.length s.E), s.L ++ [⟨k, 0, v⟩]⟩ := by
  have h1 := link_keeps (putZ s.N k) k nr nr.length (h.rel.add hk)
  have h2 := pruneN_keeps (s.L ++ [⟨k, 0, v⟩]) (putZ s.N k) nr j h1.1
  have h0 := h.new hv hk
  refine ⟨h2.1, h0.same, h0.once, h0.vecs, ?_⟩
  have h4 := h.few
  simp only [List.length_append, List.length_singleton]
  omega

theorem ok_len {dim : Int} {s : Mz} (h : OkM dim s) : s.N.length = s.L.length := by
  obtain ⟨Q, hr⟩ := h.rel
  have h1 := nodup_le (sorted_nodup hr.sorted) fun x hx => (h.same x).1 hx
  have h2 := nodup_le h.once fun x hx => (h.same x).2 hx
  simp only [List.length_map] at h1 h2
  omega

theorem resW_bare (L : List Hz) (E : Eg) {most : Nat} (hm : 1 ≤ most) (ks : List Int) : (∀ y ∈ (resW L E most ks).1, y.vec = []) ∧ (resW L E most ks).1.length ≤ most := by
  obtain ⟨s, V, h⟩ := endR (L := L) E hm ks
  rw [← h.list]
  exact ⟨h.good.plain, h.good.best.len⟩

theorem link_step (N : List Int) (k : Int) (nr : List Hz) (j : Nat) (hj : j < nr.length) (E : Eg) : linkN N k nr (j + 1) E = if j = 0 then (bindD N (linkN N k nr j E) k nr[j].id).2 else (linkD N (linkN N k nr j E) k nr[j].id).2 := by
  conv => lhs; unfold linkN
  rw [List.getElem?_eq_getElem hj]

theorem prune_step (L : List Hz) (N : List Int) (nr : List Hz) (j : Nat) (hj : j < nr.length) (E : Eg) : pruneN L N nr (j + 1) E = pruneZ L N nr[j].id (pruneN L N nr j E).length (pruneN L N nr j E) := by
  conv => lhs; unfold pruneN
  rw [List.getElem?_eq_getElem hj]

def NewV (w : World) (VL VL' : List (Int × Value)) : Prop := ∀ k v b, getK VL' k = some v → v.ownBlock = some b → getK VL k = some v ∨ w.heap.size ≤ b


set_option maxRecDepth 100000 in
set_option maxHeartbeats 16000000 in
theorem mPut {B : Nat} {w : World} {z p m mv : Nat} {Q : Gr} {dim en : Int} {VL : List (Int × Value)} {s : Mz} (h : MzAt B w z p m mv Q dim en VL s) (hen : en = entryZ s.L) (ok : OkM dim s) (hL : s.L.length ≤ 900) (k : Int) (v : Value) (xs : List Int) (hv : Nums w .i32 v xs) (ht : LiesIn (OfType w 21) v xs.length) :
    Calls Tryz.prog 34 #[.pointer (some ⟨z, 0, none⟩), .int .u64 k, v] w fun e w' => e = .returned (.int .i64 (putM dim s k xs).1) ∧ (∃ Q' VL', MzAt B w' z p m mv Q' dim (entryZ (putM dim s k xs).2.L) VL' (putM dim s k xs).2 ∧ NewV w VL VL') ∧ Mod (MTurn w B) w w' := by
  have hNL := ok_len ok
  have hEf := ok.few
  have H := Lib.hid h
  have cR := Lib.hid (mRight w z dim v xs (cellsB h.cell 1) hv)
  have cH := Lib.hid (h.has k)
  have cL := Lib.hid h.length
  have V := Lib.hid (And.intro hv ht)
  have OK := Lib.hid ok
  have EN := Lib.hid hen
  obtain ⟨vq, vc, rfl, hvc1, hvc2, -, -⟩ := hv.slice
  have hx8 : rightZ dim xs = true → xs.length ≤ 1000000 := by
    intro hr
    unfold rightZ at hr
    simp only [Bool.and_eq_true, decide_eq_true_eq] at hr
    have h1 := hr.1
    unfold rightB at h1
    simp only [Bool.and_eq_true, decide_eq_true_eq] at h1
    omega
  unfold putM
  cases hr : rightZ dim xs with
  | false =>
    rw [if_pos rfl]
    rw [hr] at cR
    clear h hen ok hv ht hx8 hr
    go_enter Tryz.func34, Tryz.ntmps34
    go_wp2_with fail
    (with_reducible refine cR.out.mono ?_)
    rintro e w1 ⟨rfl, rfl⟩
    go_wp2_with fail
    go_ret
    exact ⟨rfl, ⟨Q, VL, EN.out ▸ H.out, fun _ _ _ h _ => .inl h⟩, Mod.refl _ _⟩
  | true =>
    rw [if_neg (by simp)]
    rw [hr] at cR
    by_cases hk : k ∈ s.N
    · rw [if_pos hk]
      rw [decide_eq_true hk] at cH
      clear h hen ok hv ht hx8 hr hk
      go_enter Tryz.func34, Tryz.ntmps34
      go_wp2_with fail
      (with_reducible refine cR.out.mono ?_)
      rintro e w1 ⟨rfl, rfl⟩
      go_wp2_with fail
      (with_reducible refine cH.out.mono ?_)
      rintro e w2 ⟨rfl, rfl⟩
      go_wp2_with fail
      go_ret
      exact ⟨rfl, ⟨Q, VL, EN.out ▸ H.out, fun _ _ _ h _ => .inl h⟩, Mod.refl _ _⟩
    · rw [if_neg hk]
      rw [decide_eq_false hk] at cH
      have HK := Lib.hid hk
      have HR := Lib.hid hr
      have hx8 := hx8 hr
      obtain ⟨NF, hNF⟩ : ∃ l, l = if s.L = [] then [] else (resW (spaceZ s.L xs) s.E 16 [entryZ s.L]).1 := ⟨_, rfl⟩
      have hNM : nearM s xs = NF.take 4 := by rw [hNF]; unfold nearM; split <;> simp
      have hNFb : (∀ y ∈ NF, y.vec = []) ∧ NF.length ≤ 16 := by
        rw [hNF]
        split
        · simp
        · exact resW_bare _ _ (by omega) _
      obtain ⟨en2, hen2⟩ : ∃ e, e = entryZ (newM s k xs).L := ⟨_, rfl⟩
      rw [← hen2]
      have hnil : s.L = [] → en2 = k := fun e => by rw [hen2]; unfold newM entryZ; rw [e]; rfl
      have hcons : s.L ≠ [] → en2 = en := fun e => by
        rw [hen2, hen]; unfold newM entryZ
        cases hs : s.L with
        | nil => exact absurd hs e
        | cons a l => rfl
      obtain ⟨n0, hn0⟩ : ∃ n, n = s.N.length := ⟨_, rfl⟩
      rw [← hn0] at cL hNL
      have hNL := Lib.hid hNL
      have hN9 : s.N.length ≤ 900 := by have := hNL.out; omega
      clear h hen ok hv ht hr hk hen2 hn0
      go_enter Tryz.func34, Tryz.ntmps34
      go_wp2_with fail
      (with_reducible refine cR.out.mono ?_)
      rintro e w1 ⟨rfl, rfl⟩
      go_wp2_with fail
      (with_reducible refine cH.out.mono ?_)
      rintro e w2 ⟨rfl, rfl⟩
      go_wp2_with fail
      (with_reducible refine cL.out.mono ?_)
      rintro e w3 ⟨rfl, rfl⟩
      go_upto_if 28 with fail
      go_cut [7, 8, 27, 28] (fun _ st _ _ wc => ∃ np nc, st = .slice np NF.length nc ∧ HitsT wc (.slice np NF.length nc) NF ∧ MzAt B wc z p m mv Q dim en2 VL s ∧ Mod (MTurn w3 B) w3 wc)
      case first =>
        by_cases hL0 : s.L = []
        · have hb1 : ((n0 : Int) == 0) = true := by have := hNL.out; rw [hL0] at this; simp at this; simp [this]
          have hNF0 : NF = [] := by rw [hNF, if_pos hL0]
          have he := hnil hL0
          have CELL := H.out.cell
          have z3 : w3.frozen? ⟨z, 3, none⟩ = false := by simp [World.frozen?, CELL]
          have x3 := cellsB CELL 3
          have EN2 := Lib.hid (H.out.enter k)
          have FX := Lib.hid (And.intro hNF0 he)
          clear hNM hNFb hnil hcons hNF hNF0 he CELL
          go_wp2_with fail
          go_meet
          exact ⟨none, 0, by rw [FX.out.1]; rfl, by rw [FX.out.1]; exact HitsF.nil _ _, by rw [FX.out.2]; exact EN2.out.1, EN2.out.2⟩
        · have hb1 : ((n0 : Int) == 0) = false := by
            have h1 := hNL.out
            have h2 : s.L.length ≠ 0 := fun e => hL0 (List.eq_nil_of_length_eq_zero e)
            simp only [beq_eq_false_iff_ne, ne_eq]
            omega
          have he := hcons hL0
          have x3 := cellsB H.out.cell 3
          obtain ⟨W4, hW4⟩ : ∃ W4, W4 = w3.alloc (.cells #[.int .u64 en] 36) := ⟨_, rfl⟩
          have hb4 : Below w3.heap.size w3 W4 := by rw [hW4]; exact (Below.refl _ _).alloc (Nat.le_refl _) _
          have y4 : W4.heap[w3.heap.size]? = some (.cells #[.int .u64 en] 36 (0, 0)) := by rw [hW4]; exact heap_alloc_new _ _
          have H4 := Lib.hid (H.out.below hb4)
          have cW := Lib.hid (H4.out.walk OK.out (by omega) (by omega) (.slice vq xs.length vc) xs (V.out.1.below hb4) HR.out 16 (by decide) (.slice (some ⟨w3.heap.size, 0, none⟩) 1 1) [en] (Nums.mk (xs := [en]) (by simp) (by simp) (by simp) (fun i hi => ⟨w3.heap.size, 0, rfl, by
            have hi1 : i < 1 := hi
            obtain rfl : i = 0 := by omega
            exact cellsB y4 0⟩)) (fun k hk _ => by simp only [Value.ownBlock, Option.some.injEq] at hk; rw [← hk]; exact lt_block y4))
          have hNF2 : NF = (resW (spaceZ s.L xs) s.E 16 [en]).1 := by rw [hNF, if_neg hL0, EN.out]
          obtain ⟨nn, hnn⟩ : ∃ n, n = (resW (spaceZ s.L xs) s.E 16 [en]).2 := ⟨_, rfl⟩
          rw [← hNF2, ← hnn, show ((16 : Nat) : Int) = 16 from rfl] at cW
          have NB := Lib.hid hNFb
          have HW4 := Lib.hid hW4
          have FX := Lib.hid he
          clear hNM hNFb hnil hcons hNF hNF2 he hnn hW4 y4 hL0
          have B4 := Lib.hid hb4
          clear hb4
          go_wp2_with fail
          rw [← HW4.out]
          (with_reducible refine cW.out.mono ?_)
          intro e w5 hT
          obtain ⟨v5, rfl, hG, hb5⟩ := hT.typed NB.out.1
          obtain ⟨p5, c5, hv5, -⟩ := id hG
          subst hv5
          have G5 := Lib.hid hG
          have H5 := Lib.hid (H4.out.below hb5)
          have M5 := Lib.hid (show Mod (MTurn w3 B) w3 w5 from Mod.of_below (B4.out.trans (hb5.mono B4.out.size)))
          clear hT hG hb5
          go_wp2_with fail
          go_meet
          exact ⟨p5, c5, rfl, G5.out, by rw [FX.out]; exact H5.out, M5.out⟩
      case rest =>
        obtain ⟨np, nc, rfl, hT, hA, hM⟩ := hcut
        have T5 := Lib.hid hT
        have A5 := Lib.hid hA
        have M5 := Lib.hid hM
        have c0 := cellsB hA.cell 0
        have cA := Lib.hid (hA.add HK.out)
        have NB := Lib.hid hNFb
        clear hT hA hM hnil hcons hNF hNFb
        go_wp2_with fail
        (with_reducible refine cA.out.mono ?_)
        rintro e w6 ⟨rfl, ⟨Q6, hA6⟩, hm6⟩
        have A6 := Lib.hid hA6
        have M6 := Lib.hid (MTurn.trans M5.out hm6)
        have T6 := Lib.hid (T5.out.mturn hm6)
        have V6 := Lib.hid (V.out.1.mturn V.out.2 M6.out)
        clear hA6 hm6 c0
        obtain ⟨W7, hW7⟩ : ∃ W7, W7 = w6.drew := ⟨_, rfl⟩
        have hb7 : Below w6.heap.size w6 W7 := by rw [hW7]; exact (Below.refl _ _).drew
        have A7 := Lib.hid (A6.out.below hb7)
        have cC := Lib.hid (clone xs _ W7 (V6.out.1.below hb7) hx8)
        have I7 := Lib.hid (cellsB A7.out.cell 2)
        have M7 := Lib.hid (M6.out.andBelow hb7)
        have T7 := Lib.hid (T6.out.below hb7)
        have HW7 := Lib.hid hW7
        have NI := Lib.hid (show k ∉ s.L.map (fun y : Hz => y.id) from fun hk => HK.out ((OK.out.same k).2 hk))
        clear hW7 hb7
        go_upto_region 13 with fail
        refine region_goN 7 (fun w' => w'.cell? ⟨z, 2, none⟩ = some (.map (some mv))) (by kernel_rfl) ?hS0 (fun hH => ?_)
        case hS0 =>
          rw [← HW7.out]; exact I7.out
        rw [← HW7.out] at hH ⊢
        refine kYN 0 hH ?_
        repeat simp only [Act.put, uA1, uB1, uC1]
        refine kYN 1 hH ?_
        repeat simp only [Act.put, uA1, uB1, uC1]
        refine kYN 2 hH ?_
        repeat simp only [Act.put, uA1, uB1, uC1]
        refine kYN 3 hH ?_
        repeat simp only [Act.put, uA1, uB1, uC1]
        refine kYN 4 hH ?_
        repeat simp only [Act.put, uA1, uB1, uC1]
        refine kYN 5 hH ?_
        repeat simp only [Act.put, uA1, uB1, uC1]
        refine spkN 6 rfl (by decide) (by decide +kernel) (by rfl) (fun K' hK => ?_)
        go_simp
        with_reducible refine cC.out.mono ?_
        rintro e w8 ⟨v8, rfl, ho8, hb8⟩
        obtain ⟨cq, cc, rfl, -, -, -, -⟩ := (Nums.of_own ho8).slice
        have A8 := Lib.hid (A7.out.below hb8)
        obtain ⟨w9, hput, hA9, hm9⟩ := A8.out.lay NI.out (own_mono ho8 A7.out.gp.big)
        have A9 := Lib.hid hA9
        have M8 := Lib.hid (M7.out.andBelow hb8)
        have M9 := Lib.hid (MTurn.trans M8.out hm9)
        have T9 := Lib.hid ((T7.out.below hb8).mturn hm9)
        try dsimp only
        refine hK.out _ _ ?hS (fun hH' => ?_)
        case hS =>
          exact below_cells hb8 hH
        clear hK K' hH; have hH := hH'; clear hH'; repeat simp only [Act.put, uA1, uB1, uC1]
        refine spkL rfl (by decide +kernel) (by rfl) (fun K' hK => ?_)
        go_simp
        try dsimp only
        refine hK.out _ _ ?_
        clear hK K' hH; repeat simp only [Act.put, uA1, uB1, uC1]
        refine anyBut_done (by decide +kernel) ?_ _
        obtain ⟨VL2, hVL2⟩ : ∃ l, l = putK VL k (.slice cq xs.length cc) := ⟨_, rfl⟩
        rw [← hVL2] at A9
        have NV := Lib.hid (show NewV w3 VL VL2 from by
          intro k' v' b hg hb
          rw [hVL2, getK_put] at hg
          split at hg
          · obtain rfl := Option.some.inj hg
            have h1 := (ho8.lt b hb).1
            have h2 := M7.out.size
            exact .inr (by omega)
          · exact .inl hg)
        obtain ⟨NR, hNR⟩ : ∃ l, l = NF.take 4 := ⟨_, rfl⟩
        have hN4 : NR.length ≤ 4 := by rw [hNR]; exact List.length_take_le _ _
        have hTR := T9.out
        obtain ⟨p7, c7, hp7, hcap, hbig, -, -⟩ := id hTR
        obtain ⟨rfl, -, rfl⟩ := Value.slice.inj hp7
        have TR := Lib.hid (show HitsT w9 (.slice np NR.length nc) NR from by
          have h1 : NR.length ≤ NF.length := by rw [hNR]; simp; omega
          have h2 := hTR.front h1
          rw [show NF.take NR.length = NR from by rw [hNR]; simp []] at h2
          exact h2)
        have hmn : ∀ w : World, (Builtin.min_ #[3, 3] 3 #[.int .i64 NF.length, .int .i64 4]).run Tryz.prog w = .ok (.int .i64 NR.length) w := by
          have hmm : (NR.length : Int) = min (NF.length : Int) 4 := by rw [hNR, List.length_take]; omega
          intro w
          simp [Builtin.min_, Builtin.min2, hmm]
          split <;> omega
        have hm0 : (0 : Int) ≤ NR.length ∧ (NR.length : Int) ≤ nc := by
          have : NR.length ≤ NF.length := by rw [hNR]; simp; omega
          omega
        have htn : ((NR.length : Nat) : Int).toNat = NR.length := Int.toNat_natCast _
        have NRB := Lib.hid (show ∀ y ∈ NR, y.vec = [] from by rw [hNR]; exact fun y hy => NB.out.1 y (List.mem_of_mem_take hy))
        have NM := Lib.hid (show nearM s xs = NR from by rw [hNR]; exact hNM)
        obtain ⟨N1, hN1⟩ : ∃ n, n = putZ s.N k := ⟨_, rfl⟩
        obtain ⟨L1, hL1⟩ : ∃ n, n = s.L ++ [⟨k, 0, xs⟩] := ⟨_, rfl⟩
        have MID := Lib.hid (fun j => OK.out.mid HR.out HK.out (nr := NR) hN4 j)
        have NW := Lib.hid (show newM s k xs = ⟨N1, pruneN L1 N1 NR NR.length (linkN N1 k NR NR.length s.E), L1⟩ from by unfold newM; rw [NM.out, hN1, hL1])
        rw [← hN1, ← hL1] at A9 MID
        have L1L := Lib.hid (show L1.length ≤ 901 from by rw [hL1]; simp; omega)
        have hN1l : N1.length ≤ 1000 := by rw [hN1, putZ_length]; omega
        have SE := Lib.hid (show s.E.length ≤ 3600 by omega)
        clear hVL2 hTR hp7 hcap hbig hNM hNR hN1 hL1 hput hA9 hm9
        go_wp2_with fail
        go_loopg [67] NR.length (fun q' i wr => ∃ (j : Nat) (Q' : Gr), q' = NR.length - j ∧ j ≤ NR.length ∧ i = .int .i64 j ∧ MzAt B wr z p m mv Q' dim en2 VL2 ⟨N1, linkN N1 k NR j s.E, L1⟩ ∧ HitsT wr (.slice np NR.length nc) NR ∧ Mod (MTurn w3 B) w3 wr)
        case atStart => exact ⟨0, _, rfl, by omega, rfl, A9.out, TR.out, M9.out⟩
        case round =>
          obtain ⟨j, Q', rfl, hj, rfl, hA, hT, hM⟩ := hrel
          by_cases hlt : j < NR.length
          · obtain ⟨rs, -, -, hel⟩ := HitsF.rows hT
            obtain ⟨bb, ob, up, uc, -, hnp, -, -, e0, e1, e2, -, -⟩ := hel j hlt
            subst hnp
            have hst := link_step N1 k NR j hlt s.E
            obtain ⟨y, hy⟩ : ∃ y, y = NR[j] := ⟨_, rfl⟩
            rw [← hy] at e0 e1 e2 hst
            obtain ⟨nv, hnv⟩ : ∃ v, v = y.vec.length := ⟨_, rfl⟩
            rw [← hnv] at e2
            obtain ⟨Ej, hEj⟩ : ∃ e, e = linkN N1 k NR j s.E := ⟨_, rfl⟩
            rw [← hEj] at hst hA
            have ST := Lib.hid hst
            obtain ⟨yi, hyi⟩ : ∃ z, z = y.id := ⟨_, rfl⟩
            rw [← hyi] at e0 ST
            obtain ⟨W2, hW2⟩ : ∃ W2, W2 = (wr.alloc (.cells #[.int .u64 yi, .int .u64 y.dist, .slice up nv uc] 38)).drew := ⟨_, rfl⟩
            have hb2 : Below wr.heap.size wr W2 := by rw [hW2]; exact ((Below.refl _ _).alloc (Nat.le_refl _) _).drew
            have y2 : W2.heap[wr.heap.size]? = some (.cells #[.int .u64 yi, .int .u64 y.dist, .slice up nv uc] 38 (0, 0)) := by rw [hW2]; exact heap_alloc_new _ _
            have A2 := Lib.hid (hA.below hb2)
            have T2 := Lib.hid (HitsT.below hT hb2)
            have M2 := Lib.hid (hM.andBelow hb2)
            obtain ⟨g, hgq⟩ : ∃ g, g = wr.heap.size := ⟨_, rfl⟩
            rw [← hgq] at y2
            have Y2 := Lib.hid y2
            have I2 := Lib.hid (And.intro (cellsB A2.out.cell 0) (cellsB y2 0))
            have HW := Lib.hid hW2
            clear hel hy hnv hEj hst hyi hW2 hb2 y2 hA hT hM
            by_cases hj0 : j = 0
            · subst hj0
              rw [if_pos rfl] at ST
              simp only [Nat.zero_mul, Nat.add_zero] at e0 e1 e2
              have cB := Lib.hid (A2.out.bind k yi)
              simp only at cB
              go_upto_region 19 with fail
              rw [← hgq]
              clear hgq
              refine region_go (fun w' => w'.cell? ⟨z, 0, none⟩ = some (.pointer (some ⟨p, 0, none⟩)) ∧ w'.cell? ⟨g, 0, none⟩ = some (.int .u64 yi)) (by kernel_rfl) ?hS0 (fun hH => ?_)
              case hS0 =>
                rw [← HW.out]; exact I2.out
              rw [← HW.out] at hH ⊢
              refine kY 0 hH ?_
              repeat simp only [Act.put, uA1, uB1, uC1]
              refine kY 1 hH ?_
              repeat simp only [Act.put, uA1, uB1, uC1]
              refine kY 2 hH ?_
              repeat simp only [Act.put, uA1, uB1, uC1]
              refine kY 3 hH ?_
              repeat simp only [Act.put, uA1, uB1, uC1]
              refine kY 4 hH ?_
              repeat simp only [Act.put, uA1, uB1, uC1]
              refine kY 5 hH ?_
              repeat simp only [Act.put, uA1, uB1, uC1]
              refine kY 6 hH ?_
              repeat simp only [Act.put, uA1, uB1, uC1]
              refine kY 7 hH ?_
              repeat simp only [Act.put, uA1, uB1, uC1]
              refine spk 8 rfl (by decide +kernel) (by rfl) (fun K' hK => ?_)
              go_simp
              with_reducible refine cB.out.mono ?_
              rintro e w3 ⟨rfl, ⟨Q3, hA3⟩, hm3⟩
              try dsimp only
              refine hK.out _ _ ?hS (fun hH' => ?_)
              case hS =>
                exact ⟨cellsB hA3.cell 0, cellsB (MTurn.box hm3 Y2.out (by decide)) 0⟩
              clear hK K' hH; have hH := hH'; clear hH'; repeat simp only [Act.put, uA1, uB1, uC1]
              refine wpAnyH_done (by decide +kernel) ?_ _
              have A3 := Lib.hid hA3
              have M3 := Lib.hid (MTurn.trans M2.out hm3)
              have T3 := Lib.hid (T2.out.mturn hm3)
              clear hH hA3 hm3
              go_wp2_with fail
              go_roundg (NR.length - 1)
              case measure => omega
              case rel => exact ⟨1, Q3, rfl, by omega, by go_num, by rw [ST.out]; exact A3.out, T3.out, M3.out⟩
            · have hj0' : ¬ (j : Int) = 0 := by omega
              rw [if_neg hj0] at ST
              have cB := Lib.hid (A2.out.link k yi)
              simp only at cB
              go_upto_region 20 with fail
              rw [← hgq]
              clear hgq
              refine region_go (fun w' => w'.cell? ⟨z, 0, none⟩ = some (.pointer (some ⟨p, 0, none⟩)) ∧ w'.cell? ⟨g, 0, none⟩ = some (.int .u64 yi)) (by kernel_rfl) ?hS0 (fun hH => ?_)
              case hS0 =>
                rw [← HW.out]; exact I2.out
              rw [← HW.out] at hH ⊢
              refine kY 0 hH ?_
              repeat simp only [Act.put, uA1, uB1, uC1]
              refine kY 1 hH ?_
              repeat simp only [Act.put, uA1, uB1, uC1]
              refine kY 2 hH ?_
              repeat simp only [Act.put, uA1, uB1, uC1]
              refine kY 3 hH ?_
              repeat simp only [Act.put, uA1, uB1, uC1]
              refine kY 4 hH ?_
              repeat simp only [Act.put, uA1, uB1, uC1]
              refine kY 5 hH ?_
              repeat simp only [Act.put, uA1, uB1, uC1]
              refine kY 6 hH ?_
              repeat simp only [Act.put, uA1, uB1, uC1]
              refine kY 7 hH ?_
              repeat simp only [Act.put, uA1, uB1, uC1]
              refine spk 8 rfl (by decide +kernel) (by rfl) (fun K' hK => ?_)
              go_simp
              with_reducible refine cB.out.mono ?_
              rintro e w3 ⟨rfl, ⟨Q3, hA3⟩, hm3⟩
              try dsimp only
              refine hK.out _ _ ?hS (fun hH' => ?_)
              case hS =>
                exact ⟨cellsB hA3.cell 0, cellsB (MTurn.box hm3 Y2.out (by decide)) 0⟩
              clear hK K' hH; have hH := hH'; clear hH'; repeat simp only [Act.put, uA1, uB1, uC1]
              refine wpAnyH_done (by decide +kernel) ?_ _
              have A3 := Lib.hid hA3
              have M3 := Lib.hid (MTurn.trans M2.out hm3)
              have T3 := Lib.hid (T2.out.mturn hm3)
              clear hH hA3 hm3
              go_wp2_with fail
              go_roundg (NR.length - (j + 1))
              case measure => omega
              case rel => exact ⟨j + 1, Q3, rfl, by omega, by go_num, by rw [ST.out]; exact A3.out, T3.out, M3.out⟩
          · obtain rfl : j = NR.length := by omega
            obtain ⟨E1, hE1⟩ : ∃ e, e = linkN N1 k NR NR.length s.E := ⟨_, rfl⟩
            rw [← hE1] at hA MID NW
            have A0 := Lib.hid hA
            have T0 := Lib.hid hT
            have M0 := Lib.hid hM
            clear hA hT hM hE1
            go_wp2_with fail
            go_loopg [95] NR.length (fun q' i wr => ∃ (j : Nat) (Q' : Gr), q' = NR.length - j ∧ j ≤ NR.length ∧ i = .int .i64 j ∧ MzAt B wr z p m mv Q' dim en2 VL2 ⟨N1, pruneN L1 N1 NR j E1, L1⟩ ∧ HitsT wr (.slice np NR.length nc) NR ∧ Mod (MTurn w3 B) w3 wr)
            case atStart => exact ⟨0, _, rfl, by omega, rfl, A0.out, T0.out, M0.out⟩
            case round =>
              obtain ⟨j, Q9, rfl, hj, rfl, hA, hT, hM⟩ := hrel
              by_cases hlt : j < NR.length
              · obtain ⟨rs, -, -, hel⟩ := HitsF.rows hT
                obtain ⟨bb, ob, up, uc, -, hnp, -, -, e0, e1, e2, -, -⟩ := hel j hlt
                subst hnp
                have hst := prune_step L1 N1 NR j hlt E1
                obtain ⟨y, hy⟩ : ∃ y, y = NR[j] := ⟨_, rfl⟩
                rw [← hy] at e0 e1 e2 hst
                obtain ⟨nv, hnv⟩ : ∃ v, v = y.vec.length := ⟨_, rfl⟩
                rw [← hnv] at e2
                have hmid := MID.out j
                obtain ⟨Ej, hEj⟩ : ∃ e, e = pruneN L1 N1 NR j E1 := ⟨_, rfl⟩
                rw [← hEj] at hst hA hmid
                have ST := Lib.hid hst
                obtain ⟨yi, hyi⟩ : ∃ z, z = y.id := ⟨_, rfl⟩
                rw [← hyi] at e0 ST
                obtain ⟨W2, hW2⟩ : ∃ W2, W2 = wr.alloc (.cells #[.int .u64 yi, .int .u64 y.dist, .slice up nv uc] 38) := ⟨_, rfl⟩
                have hb2 : Below wr.heap.size wr W2 := by rw [hW2]; exact (Below.refl _ _).alloc (Nat.le_refl _) _
                have A2 := Lib.hid (hA.below hb2)
                have T2 := Lib.hid (HitsT.below hT hb2)
                have M2 := Lib.hid (hM.andBelow hb2)
                have hfe := hmid.few
                have hl1 := L1L.out
                have cP := Lib.hid (mPrune A2.out hmid hN1l (by simp only at hfe; show Ej.length ≤ 100000; omega) yi)
                simp only at cP
                have HW := Lib.hid hW2
                clear hel hy hnv hEj hst hyi hW2 hb2 hA hT hM hmid hfe hl1
                go_wp2_with fail
                rw [← HW.out]
                (with_reducible refine cP.out.mono ?_)
                rintro e w4 ⟨rfl, ⟨Q4, hA4⟩, hm4⟩
                have A4 := Lib.hid hA4
                have M4 := Lib.hid (MTurn.trans M2.out hm4)
                have T4 := Lib.hid (T2.out.mturn hm4)
                clear hA4 hm4
                go_wp2_with fail
                go_roundg (NR.length - (j + 1))
                case measure => omega
                case rel => exact ⟨j + 1, Q4, rfl, by omega, by go_num, by rw [ST.out]; exact A4.out, T4.out, M4.out⟩
              · obtain rfl : j = NR.length := by omega
                have FA := Lib.hid (show ∃ Q' VL', MzAt B wr z p m mv Q' dim en2 VL' (newM s k xs) ∧ NewV w3 VL VL' from by rw [NW.out]; exact ⟨Q9, VL2, hA, NV.out⟩)
                have FM := Lib.hid hM
                clear hA hT hM
                go_wp2_with fail
                go_ret
                exact ⟨rfl, FA.out, FM.out⟩

end Go.Proofs.YtpjbkaibgajpcaaGreat

namespace Go.Proofs.YtpjbkaibgajpcaaGreat
open Go.RowKit Go.ChangeMaps
set_option maxRecDepth 20000

theorem mNew_no (w : World) (dim : Int) (hd : ¬ (1 ≤ dim ∧ dim ≤ 8)) :
    Calls Tryz.prog 33 #[.int .i64 dim] w fun e w' => e = .returned (.tuple #[.pointer none, .int .i64 1]) ∧ w' = w := by
  by_cases h1 : dim < 1
  · clear hd
    go_enter Tryz.func33, Tryz.ntmps33
    go_wp2_with fail
    go_ret2
    exact ⟨rfl, rfl⟩
  · have h2 : 8 < dim := by omega
    clear hd
    go_enter Tryz.func33, Tryz.ntmps33
    go_wp2_with fail
    go_ret2
    exact ⟨rfl, rfl⟩

set_option maxRecDepth 100000 in
theorem mNew (w : World) (dim : Int) (hd : 1 ≤ dim ∧ dim ≤ 8) :
    Calls Tryz.prog 33 #[.int .i64 dim] w fun e w' => ∃ z p m mv Q, e = .returned (.tuple #[.pointer (some ⟨z, 0, none⟩), .int .i64 0]) ∧ MzAt w.heap.size w' z p m mv Q dim 0 [] emptyM ∧ Below w.heap.size w w' := by
  have cN := Lib.hid (GP.new w [] [] (.slice none 0 0) (nums_none w) (fun h => absurd h (by simp)) (by simp) List.Pairwise.nil (fun _ => Iff.rfl))
  have h1 : ¬ dim < 1 := by omega
  have h2 : ¬ 8 < dim := by omega
  have hmm := @run_makeMap Tryz.prog
  clear hd
  go_enter Tryz.func33, Tryz.ntmps33
  go_wp2_with fail
  (with_reducible refine cN.out.mono ?_)
  rintro e w1 ⟨p, m, Q, rfl, hG, hb1⟩
  have hh := heapTwo w1 (.map #[] 0) (.cells #[.pointer (some ⟨p, 0, none⟩), .int .i64 dim, .map (some w1.heap.size), .int .u64 0] 85)
  obtain ⟨W2, hW2⟩ : ∃ W2, W2 = (w1.alloc (.map #[] 0)).alloc (.cells #[.pointer (some ⟨p, 0, none⟩), .int .i64 dim, .map (some w1.heap.size), .int .u64 0] 85) := ⟨_, rfl⟩
  rw [← hW2] at hh
  have hb2 : Below w1.heap.size w1 W2 := by rw [hW2]; exact ((Below.refl _ w1).alloc (Nat.le_refl _) _).alloc (by simp) _
  have hs1 := hb1.size
  have FIN := Lib.hid (show MzAt w.heap.size W2 (w1.heap.size + 1) p m w1.heap.size Q dim 0 [] emptyM ∧ Below w.heap.size w W2 from by
    refine ⟨⟨hh.2, hG.below hb2, (MapAt.made (mk := Value.int .u64) w1).kept (by rw [hh.1]; exact (heap_alloc_new _ _).symm), ⟨?_, ?_⟩, by simp [emptyM], by simp [getK], by omega, by omega⟩, hb1.trans (hb2.mono hs1)⟩
    · have := hG.g.outer.lt
      omega
    · rintro ⟨q, hq, e⟩
      have := (hG.g.inner q hq).lt
      omega)
  have HW2 := Lib.hid hW2
  clear hh hb2 hG hb1 hW2
  go_wp2_with fail
  go_ret2
  rw [← HW2.out]
  exact ⟨_, p, m, _, Q, rfl, FIN.out.1, FIN.out.2⟩

section
variable {B : Nat} {w w' : World} {z p m mv : Nat} {Q : Gr} {dim en : Int} {VL : List (Int × Value)} {s : Mz}

theorem vec_short (ok : OkM dim s) (k : Int) : (vecOf s.L k).length ≤ 8 := by
  by_cases hk : k ∈ s.L.map (fun h : Hz => h.id)
  · obtain ⟨y, hy, rfl⟩ := List.mem_map.1 hk
    rw [vec_of ok.once hy]
    have h1 := (ok.vecs y hy).1
    unfold rightZ rightB at h1
    simp only [Bool.and_eq_true, decide_eq_true_eq] at h1
    exact h1.1.1.2
  · rw [vec_none hk]; simp

theorem mVec (h : MzAt B w z p m mv Q dim en VL s) (ok : OkM dim s) (k : Int) :
    Calls Tryz.prog 30 #[.pointer (some ⟨z, 0, none⟩), .int .u64 k] w fun e w' => ∃ v, e = .returned (.tuple #[v, .bool (decide (k ∈ s.N))]) ∧ w'.ownsRow w.heap.size 21 1 v (vecOf s.L k).length ((vecOf s.L k).map (Value.int .i32)) ∧ Below w.heap.size w w' := by
  have c2 := cellsB h.cell 2
  have LK := h.look k true
  simp only [if_true] at LK
  obtain ⟨e1, e2⟩ := h.vec ok k
  have hs : (getK VL k).isSome = decide (k ∈ s.N) := by rw [Bool.eq_iff_iff, e2, decide_eq_true_eq]
  rw [hs] at LK
  obtain ⟨u, hu⟩ : ∃ u, u = (getK VL k).getD (.slice none 0 0) := ⟨_, rfl⟩
  rw [← hu] at LK e1
  have cC := Lib.hid (clone _ u w e1 (Nat.le_trans (vec_short ok k) (by omega)))
  obtain ⟨uq, uc, rfl, -, -, -, -⟩ := e1.slice
  obtain ⟨b, hb⟩ : ∃ b, b = decide (k ∈ s.N) := ⟨_, rfl⟩
  rw [← hb] at LK ⊢
  clear h ok e1 e2 hs hu hb
  go_enter Tryz.func30, Tryz.ntmps30
  go_wp2_with fail
  (with_reducible refine cC.out.mono ?_)
  rintro e w1 ⟨v, rfl, ho, hb1⟩
  have FIN := Lib.hid (And.intro ho hb1)
  clear ho hb1
  go_wp2_with fail
  go_ret2
  exact ⟨v, rfl, FIN.out.1, FIN.out.2⟩

theorem mEntry (h : MzAt B w z p m mv Q dim en VL s) (hen : en = entryZ s.L) (ok : OkM dim s) :
    Calls Tryz.prog 26 #[.pointer (some ⟨z, 0, none⟩)] w fun e w' => e = .returned (.tuple #[.int .u64 (entryZ s.L), .bool (!s.L.isEmpty)]) ∧ w' = w := by
  have cL := Lib.hid h.length
  have x3 := cellsB h.cell 3
  have hNL := Lib.hid (ok_len ok)
  obtain ⟨n0, hn0⟩ : ∃ n, n = s.N.length := ⟨_, rfl⟩
  rw [← hn0] at cL hNL
  have EN := Lib.hid hen
  by_cases hL0 : s.L = []
  · have hb1 : ((n0 : Int) == 0) = true := by have := hNL.out; rw [hL0] at this; simp at this; simp [this]
    have EE := Lib.hid (show entryZ s.L = 0 ∧ (!s.L.isEmpty) = false from by rw [hL0]; exact ⟨rfl, rfl⟩)
    clear h hen ok hn0 hL0
    go_enter Tryz.func26, Tryz.ntmps26
    go_wp2_with fail
    (with_reducible refine cL.out.mono ?_)
    rintro e w1 ⟨rfl, rfl⟩
    go_wp2_with fail
    go_ret2
    exact ⟨by rw [EE.out.1, EE.out.2]; rfl, rfl⟩
  · have hb1 : ((n0 : Int) == 0) = false := by
      have h1 := hNL.out
      have h2 : s.L.length ≠ 0 := fun e => hL0 (List.eq_nil_of_length_eq_zero e)
      simp only [beq_eq_false_iff_ne, ne_eq]
      omega
    have EE := Lib.hid (show (!s.L.isEmpty) = true from by cases hs : s.L with
      | nil => exact absurd hs hL0
      | cons a l => rfl)
    clear h hen ok hn0 hL0
    go_enter Tryz.func26, Tryz.ntmps26
    go_wp2_with fail
    (with_reducible refine cL.out.mono ?_)
    rintro e w1 ⟨rfl, rfl⟩
    go_wp2_with fail
    go_ret2
    exact ⟨by rw [EE.out, EN.out]; rfl, rfl⟩
end

end Go.Proofs.YtpjbkaibgajpcaaGreat
