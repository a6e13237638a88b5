/-
  chain's law: ChainSweeps.
-/
import Derived.Test.YtpoophimfjfgkaaChainR
namespace Go.Proofs.Ytpoophimfjfgkaa
open Go.RowKit

theorem InLaw.other {w0 w w' : World} {F G : Nat → Prop} {c : Nat} {l : List (Int × List Int)} (h : InLaw w0 F c l w) (hm : Mod G w w') (hd : ∀ k, F k → ¬ G k) (hG : ∀ k, G k → w0.heap.size ≤ k) : InLaw w0 F c l w' :=
  ⟨h.chain.agree (Agree.of_mod hm h.hi hd), h.lo, fun k hk => by have := h.hi k hk; have := hm.size; omega, h.below.trans (hm.below h.below.size hG)⟩

/-- how many lie at or below -/
def cntF (s : Int) (l : List (Int × List Int)) : Nat := (l.filter fun r => decide (r.1 ≤ s)).length

theorem cntF_snoc (s : Int) (l : List (Int × List Int)) (r : Int × List Int) : cntF s (l ++ [r]) = if r.1 ≤ s then cntF s l + 1 else cntF s l := by
  unfold cntF
  rw [List.filter_append, List.length_append]
  by_cases h : r.1 ≤ s <;> simp [h]

theorem cntF_eq {s : Int} {l : List (Int × List Int)} (h : Rising l) : cntF s l = cntZ s l := by
  unfold cntF cntZ; rw [rising_filter h]

theorem cntF_le (s : Int) (l : List (Int × List Int)) : cntF s l ≤ l.length := List.length_filter_le _ _

set_option maxHeartbeats 8000000 in
theorem chainSweeps (m : List OpZ) (hm : ∀ r ∈ m, r.Fits) (mark : Int) (hs : 0 ≤ mark) (asks : List Int) (v va : Value) (w : World) (h : Script w v m) (ha : Nums w .u64 va asks) (hr : asks.length * 8 ≤ 140737488351232) :
    Calls Try.prog 4 #[v, .int .u64 mark, va] w fun e w' => e = .returned (.bool true) ∧ Below w.heap.size w w' := by
  obtain ⟨p, cap, rfl, hcap, hbig, -, -⟩ := id h
  have hl9 : m.length ≤ 9223372036854775807 := by omega
  have H := Lib.hid h
  have M := Lib.hid hm
  obtain ⟨pa, ca, rfl, -, -, -, -⟩ := id ha.slice
  have HA := Lib.hid ha
  clear h hm hcap hbig ha
  go_enter Try.func4, Try.ntmps4
  go_wp2_with fail
  refine (awake_true w).mono ?_
  rintro e w1 ⟨rfl, hb1⟩
  have B1 := Lib.hid hb1
  clear hb1
  go_wp2_with fail
  refine (new [] (by simp) (by simp) _ w1 ⟨none, 0, rfl, by simp, by simp, by simp, fun i hi => absurd hi (by simp)⟩).mono ?_
  rintro e w2 (⟨-, c, rfl, hc, hb2⟩ | ⟨hne, -⟩)
  case inr => exact absurd rfl hne
  have L2 := Lib.hid (InLaw.new B1.out hc hb2)
  clear hc hb2
  go_wp2_with fail
  go_loopg [32] m.length (fun q i wr => ∃ (k : Nat) (F : Nat → Prop), q = m.length - k ∧ k ≤ m.length ∧ i = .int .i64 k ∧ InLaw w F c (fillZ [] (scrZ m k)) wr)
  case atStart => exact ⟨0, _, rfl, by omega, rfl, L2.out⟩
  case round =>
    obtain ⟨k, F, rfl, hk, rfl, hL⟩ := hrel
    have L := Lib.hid hL
    by_cases hlt : k < m.length
    · obtain ⟨b, off, u, rfl, c0, c1, c2, c3, hu⟩ := (H.out.below hL.below).elem hlt
      obtain ⟨up, uc, rfl, -, -, -, -⟩ := id hu.slice
      have U := Lib.hid hu
      have hFits := Lib.hid (M.out _ (List.getElem_mem hlt))
      clear hL hu
      by_cases h40 : k < 40
      · skip
        go_wp2_with fail
        have hbox := ((Below.refl wr.heap.size wr).alloc (Nat.le_refl _) (Obj.cells #[Value.int IntKind.u8 m[k].act, Value.int IntKind.u64 m[k].stamp, Value.slice up m[k].vec.length uc, Value.int IntKind.u64 m[k].ask] 32)).drew
        have y0 : (wr.alloc (Obj.cells #[Value.int IntKind.u8 m[k].act, Value.int IntKind.u64 m[k].stamp, Value.slice up m[k].vec.length uc, Value.int IntKind.u64 m[k].ask] 32)).drew.cell? ⟨wr.heap.size, 1, none⟩ = some (.int .u64 m[k].stamp) := by go_simp
        have y1 : (wr.alloc (Obj.cells #[Value.int IntKind.u8 m[k].act, Value.int IntKind.u64 m[k].stamp, Value.slice up m[k].vec.length uc, Value.int IntKind.u64 m[k].ask] 32)).drew.cell? ⟨wr.heap.size, 2, none⟩ = some (.slice up m[k].vec.length uc) := by go_simp
        have U0 := Lib.hid (U.out.below hbox)
        have L0 := Lib.hid (L.out.step hbox)
        obtain ⟨W0, hW0⟩ : ∃ W0, W0 = (wr.alloc (Obj.cells #[Value.int IntKind.u8 m[k].act, Value.int IntKind.u64 m[k].stamp, Value.slice up m[k].vec.length uc, Value.int IntKind.u64 m[k].ask] 32)).drew := ⟨_, rfl⟩
        rw [← hW0] at hbox y0 y1 U0 L0
        have HW := Lib.hid hW0
        have hF := Lib.hid L.out.hi
        have hz := hbox.size
        have hl40 := fill_length m k
        clear hW0
        refine region_go (fun w' => w'.cell? ⟨wr.heap.size, 1, none⟩ = some (.int .u64 m[k].stamp) ∧ w'.cell? ⟨wr.heap.size, 2, none⟩ = some (.slice up m[k].vec.length uc)) (by kernel_rfl) ?hS0 (fun hH => ?_)
        case hS0 =>
          rw [← HW.out]; exact ⟨y0, y1⟩
        rw [← HW.out] at hH ⊢
        refine tkY (v := ?_) 0 hH rfl (fun _ _ _ h => h) ?hc ?hw ?hy ?_
        case hc => decide +kernel
        case hw => rfl
        case hy => (intro w hS; (try dsimp only at hS); go_simp; try with_reducible rfl)
        (try simp only [Act.put]); (repeat (first | simp only [List.setIfInBounds_toArray] | simp only [List.set_cons_zero] | simp only [List.set_cons_succ]))
        refine tkY (v := ?_) 1 hH rfl (fun _ _ _ h => h) ?hc ?hw ?hy ?_
        case hc => decide +kernel
        case hw => rfl
        case hy => (intro w hS; (try dsimp only at hS); go_simp; try with_reducible rfl)
        (try simp only [Act.put]); (repeat (first | simp only [List.setIfInBounds_toArray] | simp only [List.set_cons_zero] | simp only [List.set_cons_succ]))
        refine tkY (v := ?_) 2 hH rfl (fun _ _ _ h => h) ?hc ?hw ?hy ?_
        case hc => decide +kernel
        case hw => rfl
        case hy => (intro w hS; (try dsimp only at hS); go_simp; try with_reducible rfl)
        (try simp only [Act.put]); (repeat (first | simp only [List.setIfInBounds_toArray] | simp only [List.set_cons_zero] | simp only [List.set_cons_succ]))
        refine tkY (v := ?_) 3 hH rfl (fun _ _ _ h => h) ?hc ?hw ?hy ?_
        case hc => decide +kernel
        case hw => rfl
        case hy => (intro w hS; (try dsimp only at hS); go_simp; try with_reducible rfl)
        (try simp only [Act.put]); (repeat (first | simp only [List.setIfInBounds_toArray] | simp only [List.set_cons_zero] | simp only [List.set_cons_succ]))
        refine tkY (v := ?_) 4 hH rfl (fun _ _ _ h => h) ?hc ?hw ?hy ?_
        case hc => decide +kernel
        case hw => rfl
        case hy => (intro w hS; (try dsimp only at hS); go_simp; try with_reducible rfl)
        (try simp only [Act.put]); (repeat (first | simp only [List.setIfInBounds_toArray] | simp only [List.set_cons_zero] | simp only [List.set_cons_succ]))
        refine spk 5 rfl ?hr ?hw (fun K' hK => ?_)
        case hr => decide +kernel
        case hw => rfl
        go_simp
        refine (cutVec m[k].vec _ 10 _ U0.out (by decide) (.inr (by decide))).mono ?_
        rintro e w5 ⟨u5, rfl, hu5, hb5⟩
        obtain ⟨q5, m5, k5, rfl⟩ := own_form hu5
        have L5 := Lib.hid (L0.out.step hb5)
        have U5 := Lib.hid (Nums.of_own hu5)
        have z0 := below_cells hb5 y0
        have z1 := below_cells hb5 y1
        clear hu5 hb5
        try dsimp only
        refine hK.out _ _ ?hS (fun hH' => ?_)
        case hS =>
          exact ⟨z0, z1⟩
        clear hK K' hH; have hH := hH'; clear hH'; (try simp only [Act.put]); (repeat (first | simp only [List.setIfInBounds_toArray] | simp only [List.set_cons_zero] | simp only [List.set_cons_succ]))
        refine tkY (v := ?_) 6 hH rfl (fun _ _ _ h => h) ?hc ?hw ?hy ?_
        case hc => decide +kernel
        case hw => rfl
        case hy => (intro w hS; (try dsimp only at hS); go_simp; try with_reducible rfl)
        (try simp only [Act.put]); (repeat (first | simp only [List.setIfInBounds_toArray] | simp only [List.set_cons_zero] | simp only [List.set_cons_succ]))
        refine spk 7 rfl ?hr ?hw (fun K' hK => ?_)
        case hr => decide +kernel
        case hw => rfl
        go_simp
        refine (put w.heap.size c F (fillZ [] (scrZ m k)) m[k].stamp (m[k].vec.take 10) _ _ L5.out.chain (by omega) U5.out (by simp; omega) hFits.out.2.2.1 L5.out.below.size).mono ?_
        rintro e w7 ⟨rfl, hc7, hm7⟩
        have L7 := Lib.hid (L5.out.put hc7 hm7)
        have kk : ∀ a : Addr, a.block = wr.heap.size → w7.cell? a = w5.cell? a := fun a ha => World.cell?_of_block (by rw [ha]; exact hm7.block _ (lt_of_cell z0) fun hk => Nat.lt_irrefl _ (hF.out _ hk))
        clear hc7 hm7
        try dsimp only
        refine hK.out _ _ ?hS (fun hH' => ?_)
        case hS =>
          exact ⟨by rw [kk _ rfl]; exact z0, by rw [kk _ rfl]; exact z1⟩
        clear hK K' hH; have hH := hH'; clear hH'; (try simp only [Act.put]); (repeat (first | simp only [List.setIfInBounds_toArray] | simp only [List.set_cons_zero] | simp only [List.set_cons_succ]))
        refine wpAnyH_done (by decide +kernel) ?_ _
        clear hH kk z0 z1 y0 y1 hbox hz
        go_wp2_with fail
        go_roundg (m.length - (k + 1))
        case measure => omega
        case rel => exact ⟨k + 1, _, rfl, by omega, by go_num, by rw [scrZ_snoc hlt h40, fillZ_snoc]; exact L7.out⟩
      · go_wp2_with fail
        go_roundg (m.length - (k + 1))
        case measure => omega
        case rel => exact ⟨k + 1, F, rfl, by omega, by go_num, by rw [scrZ_same (by omega)]; exact L.out.step ((Below.refl _ _).alloc (Nat.le_refl _) _)⟩
    · obtain rfl : m.length = k := by omega
      clear hL
      have G := Lib.hid (fill_good m m.length)
      have hn40 := fill_length m m.length
      generalize fillZ [] (scrZ m m.length) = l at *
      have hl9' : l.length ≤ 9223372036854775807 := by omega
      go_wp2_with fail
      obtain ⟨cv, hcv⟩ := L.out.is
      refine (list l (by omega) G.out.lengths c cv wr hcv).mono ?_
      clear hcv
      rintro e w3 ⟨vl, rs, rfl, ho, hh, hb3⟩
      obtain ⟨lq, lc, rfl, -, -, -, -⟩ := Recs.of_own ho hh
      have hrl := hh.len
      obtain ⟨q4, n4, c4, w4, hrun4, ho4, hg4, -⟩ := run_app rowVer (World.ownsRow_nil w3 w3.heap.size _ _) (Nat.le_refl _) (SrcAt.of_own ho) (flat2_one hh.one) (by simp [maxLen]; omega) (by omega)
      rw [hrl] at hrun4
      have hb4 : Below w3.heap.size w3 w4 := (Below.refl _ _).grown hg4 (Nat.le_refl _) (by simp [Value.ownBlock])
      have R4 := Lib.hid (Recs.of_own (by simpa using ho4) (hh.below hb4))
      have L4 := Lib.hid ((L.out.step hb3).step hb4)
      have RUN := Lib.hid hrun4
      clear ho hh hb3 hrl hrun4 ho4 hg4 hb4
      go_wp2_with (refine wpList_append_eq RUN.out rfl _ _ rfl rfl rfl ?_)
      refine (new l (by omega) G.out.pos _ w4 R4.out).mono ?_
      rw [putsZ_good [] l (by simpa using G.out)]
      rintro e w5 (⟨-, cb, rfl, hc, hb5⟩ | ⟨hne, -⟩)
      case inr => exact absurd rfl hne
      have A5 := Lib.hid (L4.out.step hb5)
      have B5 := Lib.hid (InLaw.new L4.out.below hc hb5)
      have D5 := Lib.hid (show ∀ k, F k → ¬ Plus (fun _ => False) w4 w5 k from fun k hk hp => by
        rcases hp with hp | ⟨hp, _⟩
        · exact hp
        · have := L4.out.hi k hk; omega)
      clear hc hb5
      generalize Plus (fun _ => False) w4 w5 = Fb at *
      simp only [List.nil_append] at B5
      go_wp2_with fail
      refine (sweep w.heap.size cb Fb l G.out.rising (by omega) mark w5 B5.out.chain B5.out.below.size).mono ?_
      rintro e w6 ⟨g, rfl, hg, hc6, hm6⟩
      obtain ⟨gq, gc, rfl, -, -, -, -⟩ := (Nums.of_own (n := goneN mark l) (xs := (l.take (goneN mark l)).map (·.1)) hg).slice
      have A6 := Lib.hid (A5.out.other hm6 D5.out B5.out.lo)
      have B6 := Lib.hid (B5.out.put hc6 hm6)
      have D6 := Lib.hid (show ∀ k, F k → ¬ Plus Fb w5 w6 k from fun k hk hp => by
        rcases hp with hp | ⟨hp, _⟩
        · exact D5.out k hk hp
        · have := A5.out.hi k hk; omega)
      clear hg hc6 hm6
      generalize Plus Fb w5 w6 = Fc at *
      have gle := goneN_le mark l
      have AZ := Lib.hid (fun s (hs : mark ≤ s) => atZ_drop G.out.rising (s := s) hs)
      have GZ := Lib.hid (goneN_drop G.out.rising mark)
      have GD := Lib.hid (G.out.drop (goneN mark l))
      have hlt : ((l.take (goneN mark l)).map (·.1)).length = goneN mark l := by simp; omega
      rw [hlt]
      have hdl : (l.drop (goneN mark l)).length + goneN mark l = l.length := by simp; omega
      clear hlt
      generalize l.drop (goneN mark l) = lb at *
      generalize goneN mark l = n at *
      have hsum : (((n : Int) + (lb.length : Int)) != (l.length : Int)) = false := by rw [bne_eq_false_iff_eq]; omega
      go_wp2_with fail
      obtain ⟨cv, hcv⟩ := B6.out.is
      refine (len lb (by omega) cb cv w6 hcv).mono ?_
      clear hcv
      rintro e w7 ⟨rfl, rfl⟩
      go_wp2_with fail
      obtain ⟨cv, hcv⟩ := A6.out.is
      refine (len l (by omega) c cv w6 hcv).mono ?_
      clear hcv
      rintro e w7 ⟨rfl, rfl⟩
      obtain ⟨q8, n8, c8, w8, hrun8, ho8, hg8, -⟩ := run_app rowU64 (w := w6.alloc (.cells #[.int .u64 mark] 29)) (base := w6.heap.size) (World.ownsRow_lit w6 #[.int .u64 mark] 1 (Nat.le_refl _) (by simp [maxLen]) rfl) (by simp) (SrcAt.of_nums (HA.out.below (A6.out.below.alloc A6.out.below.size _))) ints_one (by simp [maxLen]; omega) (by omega)
      have hb8 : Below w6.heap.size w6 w8 := ((Below.refl _ _).alloc (Nat.le_refl _) _).grown hg8 (by simp) (by simp [Value.ownBlock])
      have ho9 : w8.ownsRow w6.heap.size 29 1 (.slice q8 n8 c8) (mark :: asks).length ((mark :: asks).map (Value.int .u64)) := by
        have : 1 + asks.length = (mark :: asks).length := by simp; omega
        rw [← this]; simpa using ho8
      have N8 := Lib.hid (Nums.of_own ho9)
      obtain ⟨p9, c9, he9, -, -, -, -⟩ := (Nums.of_own ho9).slice
      obtain ⟨rfl, rfl, rfl⟩ := Value.slice.inj he9
      have RUN8 := Lib.hid hrun8
      have A8 := Lib.hid (A6.out.step hb8)
      have B8 := Lib.hid (B6.out.step hb8)
      have hal : (mark :: asks).length ≤ 9223372036854775807 := by simp; omega
      clear ho8 hg8 hb8 ho9 he9 hrun8
      generalize mark :: asks = al at *
      go_wp2_with (refine wpList_append_eq RUN8.out rfl _ _ rfl rfl rfl ?_)
      go_loopg [75] al.length (fun q i wr => ∃ k : Nat, q = al.length - k ∧ k ≤ al.length ∧ k ≤ 20 ∧ i = .int .i64 k ∧ InLaw w F c l wr ∧ InLaw w Fc cb lb wr ∧ Below w8.heap.size w8 wr)
      case atStart => exact ⟨0, rfl, by omega, by omega, rfl, A8.out, B8.out, Below.refl _ _⟩
      case round =>
        clear L L2 L4 A5 B5 A6 B6 A8 B8
        obtain ⟨k, rfl, hk, hk20, rfl, hA, hB, hb⟩ := hrel
        have A := Lib.hid hA
        have B := Lib.hid hB
        have BW := Lib.hid hb
        by_cases hgo : k < al.length ∧ k < 20
        · obtain ⟨hlt, h20⟩ := hgo
          obtain ⟨bb, off, rfl, c0⟩ := (N8.out.below hb).elem hlt
          clear hA hB hb
          generalize al[k] = x at *
          have hAZ : ∀ s, mark ≤ s → atZ s lb = atZ s l := AZ.out
          by_cases hxm : mark ≤ x
          · skip
            have Z := Lib.hid (hAZ x (by omega))
            have hms : mark ≤ x := by omega
            clear hAZ
            go_wp2_with fail
            obtain ⟨cv, hcv⟩ := A.out.is
            refine (atOf l G.out.rising (by omega) G.out.lengths x c cv wr hcv).mono ?_
            clear hcv
            rintro e wa ⟨va, rfl, hva, hba⟩
            have V := Lib.hid (Nums.of_own hva)
            have A2 := Lib.hid (A.out.step hba)
            have B2 := Lib.hid (B.out.step hba)
            have BW2 := Lib.hid (BW.out.trans (hba.mono BW.out.size))
            clear hva hba
            go_wp2_with fail
            obtain ⟨cv, hcv⟩ := B2.out.is
            refine (atOf lb GD.out.rising (by omega) GD.out.lengths x cb cv wa hcv).mono ?_
            clear hcv
            rw [Z.out]
            rintro e wb ⟨vb, rfl, hvb, hbb⟩
            have SV := Lib.hid (sameVecOne _ _ _ wb (V.out.below hbb) (Nums.of_own hvb))
            have A3 := Lib.hid (A2.out.step hbb)
            have B3 := Lib.hid (B2.out.step hbb)
            have BW3 := Lib.hid (BW2.out.trans (hbb.mono BW2.out.size))
            clear hvb hbb Z
            generalize atZ x l = xs at *
            generalize decide (0 < xs.length) = bo at *
            have hbo : (bo != bo) = false := by simp
            go_wp2_with fail
            refine SV.out.mono ?_
            rintro e wd ⟨rfl, hd⟩
            have DD := Lib.hid hd.below
            clear hd
            go_wp2_with fail
            go_roundg (al.length - (k + 1))
            case measure => omega
            case rel => exact ⟨k + 1, rfl, by omega, by omega, by go_num, A3.out.step DD.out, B3.out.step DD.out, BW3.out.trans (DD.out.mono BW3.out.size)⟩
          · skip
            have Z := Lib.hid (hAZ mark (by omega))
            have hms : mark ≤ mark := by omega
            clear hAZ
            go_wp2_with fail
            obtain ⟨cv, hcv⟩ := A.out.is
            refine (atOf l G.out.rising (by omega) G.out.lengths mark c cv wr hcv).mono ?_
            clear hcv
            rintro e wa ⟨va, rfl, hva, hba⟩
            have V := Lib.hid (Nums.of_own hva)
            have A2 := Lib.hid (A.out.step hba)
            have B2 := Lib.hid (B.out.step hba)
            have BW2 := Lib.hid (BW.out.trans (hba.mono BW.out.size))
            clear hva hba
            go_wp2_with fail
            obtain ⟨cv, hcv⟩ := B2.out.is
            refine (atOf lb GD.out.rising (by omega) GD.out.lengths mark cb cv wa hcv).mono ?_
            clear hcv
            rw [Z.out]
            rintro e wb ⟨vb, rfl, hvb, hbb⟩
            have SV := Lib.hid (sameVecOne _ _ _ wb (V.out.below hbb) (Nums.of_own hvb))
            have A3 := Lib.hid (A2.out.step hbb)
            have B3 := Lib.hid (B2.out.step hbb)
            have BW3 := Lib.hid (BW2.out.trans (hbb.mono BW2.out.size))
            clear hvb hbb Z
            generalize atZ mark l = xs at *
            generalize decide (0 < xs.length) = bo at *
            have hbo : (bo != bo) = false := by simp
            go_wp2_with fail
            refine SV.out.mono ?_
            rintro e wd ⟨rfl, hd⟩
            have DD := Lib.hid hd.below
            clear hd
            go_wp2_with fail
            go_roundg (al.length - (k + 1))
            case measure => omega
            case rel => exact ⟨k + 1, rfl, by omega, by omega, by go_num, A3.out.step DD.out, B3.out.step DD.out, BW3.out.trans (DD.out.mono BW3.out.size)⟩
        · clear hA hB hb
          by_cases hlt : k < al.length
          · obtain rfl : 20 = k := by omega
            obtain ⟨bb, off, rfl, c0⟩ := (N8.out.below BW.out).elem hlt
            go_wp2_with fail
            obtain ⟨cv, hcv⟩ := B.out.is
            refine (list lb (by omega) GD.out.lengths cb cv wr hcv).mono ?_
            clear hcv
            rintro e wl ⟨vl, rl, rfl, ho, hh, hbl⟩
            have hrec := Recs.of_own ho hh
            obtain ⟨lq2, lc2, rfl, -, -, -, -⟩ := id hrec
            have RL := Lib.hid hrec
            have BL := Lib.hid (B.out.step hbl)
            have hlb9 : lb.length ≤ 9223372036854775807 := by omega
            clear ho hh hbl hrec
            go_wp2_with fail
            go_loopg [21, 110] lb.length (fun q n' i wr => ∃ k : Nat, q = lb.length - k ∧ k ≤ lb.length ∧ i = .int .i64 k ∧ n' = .int .i64 (cntF mark (lb.take k)) ∧ Below wl.heap.size wl wr)
            case atStart => exact ⟨0, rfl, by omega, rfl, rfl, Below.refl _ _⟩
            case round =>
              obtain ⟨k2, rfl, hk2, rfl, rfl, hb2⟩ := hrel
              have BB := Lib.hid hb2
              have hsz2 := hb2.size
              have hcl := cntF_le mark (lb.take k2)
              have hcl2 : (lb.take k2).length ≤ k2 := by simp; omega
              by_cases hlt2 : k2 < lb.length
              · obtain ⟨b2, off2, u2, rfl, c0, c1, hu2⟩ := (RL.out.below hb2).elem hlt2
                obtain ⟨up, uc, rfl, -, -, -, -⟩ := id hu2.slice
                clear hb2 hu2
                cases ht : decide (lb[k2].1 ≤ mark)
                · have hz : cntF mark (lb.take (k2 + 1)) = cntF mark (lb.take k2) := by rw [take_snoc lb k2 hlt2, cntF_snoc, if_neg (of_decide_eq_false ht)]
                  have Z := Lib.hid hz
                  clear hz
                  generalize cntF mark (lb.take k2) = cn at *
                  go_wp2_with fail
                  go_roundg (lb.length - (k2 + 1))
                  case measure => omega
                  case rel => exact ⟨k2 + 1, rfl, by omega, by go_num, by rw [Z.out], BB.out.alloc hsz2 _⟩
                · have hz : cntF mark (lb.take (k2 + 1)) = cntF mark (lb.take k2) + 1 := by rw [take_snoc lb k2 hlt2, cntF_snoc, if_pos (of_decide_eq_true ht)]
                  have Z := Lib.hid hz
                  clear hz
                  generalize cntF mark (lb.take k2) = cn at *
                  go_wp2_with fail
                  go_roundg (lb.length - (k2 + 1))
                  case measure => omega
                  case rel => exact ⟨k2 + 1, rfl, by omega, by go_num, by rw [Z.out]; go_num, BB.out.alloc hsz2 _⟩
              · obtain rfl : lb.length = k2 := by omega
                rw [List.take_length] at hcl ⊢
                have hle1 : cntF mark lb ≤ 1 := by rw [cntF_eq GD.out.rising]; exact GZ.out.2
                have BM := Lib.hid (BL.out.step BB.out)
                clear hb2
                generalize cntF mark lb = cn at *
                have hle1' : decide ((cn : Int) ≤ 1) = true := decide_eq_true (by omega)
                go_wp2_with fail
                refine (sweep w.heap.size cb Fc lb GD.out.rising (by omega) mark _ BM.out.chain BM.out.below.size).mono ?_
                unfold Swept
                rw [GZ.out.1]
                rintro e wz ⟨gz, rfl, hgz, hcz, hmz⟩
                obtain ⟨zq, zc, rfl, -, -, -, -⟩ := (Nums.of_own (xs := []) hgz).slice
                have BZ := Lib.hid (BM.out.put hcz hmz)
                clear hgz hcz hmz
                go_wp2_with fail
                go_ret
                exact ⟨rfl, BZ.out.below⟩
          · obtain rfl : al.length = k := by omega
            go_wp2_with fail
            obtain ⟨cv, hcv⟩ := B.out.is
            refine (list lb (by omega) GD.out.lengths cb cv wr hcv).mono ?_
            clear hcv
            rintro e wl ⟨vl, rl, rfl, ho, hh, hbl⟩
            have hrec := Recs.of_own ho hh
            obtain ⟨lq2, lc2, rfl, -, -, -, -⟩ := id hrec
            have RL := Lib.hid hrec
            have BL := Lib.hid (B.out.step hbl)
            have hlb9 : lb.length ≤ 9223372036854775807 := by omega
            clear ho hh hbl hrec
            go_wp2_with fail
            go_loopg [21, 110] lb.length (fun q n' i wr => ∃ k : Nat, q = lb.length - k ∧ k ≤ lb.length ∧ i = .int .i64 k ∧ n' = .int .i64 (cntF mark (lb.take k)) ∧ Below wl.heap.size wl wr)
            case atStart => exact ⟨0, rfl, by omega, rfl, rfl, Below.refl _ _⟩
            case round =>
              obtain ⟨k2, rfl, hk2, rfl, rfl, hb2⟩ := hrel
              have BB := Lib.hid hb2
              have hsz2 := hb2.size
              have hcl := cntF_le mark (lb.take k2)
              have hcl2 : (lb.take k2).length ≤ k2 := by simp; omega
              by_cases hlt2 : k2 < lb.length
              · obtain ⟨b2, off2, u2, rfl, c0, c1, hu2⟩ := (RL.out.below hb2).elem hlt2
                obtain ⟨up, uc, rfl, -, -, -, -⟩ := id hu2.slice
                clear hb2 hu2
                cases ht : decide (lb[k2].1 ≤ mark)
                · have hz : cntF mark (lb.take (k2 + 1)) = cntF mark (lb.take k2) := by rw [take_snoc lb k2 hlt2, cntF_snoc, if_neg (of_decide_eq_false ht)]
                  have Z := Lib.hid hz
                  clear hz
                  generalize cntF mark (lb.take k2) = cn at *
                  go_wp2_with fail
                  go_roundg (lb.length - (k2 + 1))
                  case measure => omega
                  case rel => exact ⟨k2 + 1, rfl, by omega, by go_num, by rw [Z.out], BB.out.alloc hsz2 _⟩
                · have hz : cntF mark (lb.take (k2 + 1)) = cntF mark (lb.take k2) + 1 := by rw [take_snoc lb k2 hlt2, cntF_snoc, if_pos (of_decide_eq_true ht)]
                  have Z := Lib.hid hz
                  clear hz
                  generalize cntF mark (lb.take k2) = cn at *
                  go_wp2_with fail
                  go_roundg (lb.length - (k2 + 1))
                  case measure => omega
                  case rel => exact ⟨k2 + 1, rfl, by omega, by go_num, by rw [Z.out]; go_num, BB.out.alloc hsz2 _⟩
              · obtain rfl : lb.length = k2 := by omega
                rw [List.take_length] at hcl ⊢
                have hle1 : cntF mark lb ≤ 1 := by rw [cntF_eq GD.out.rising]; exact GZ.out.2
                have BM := Lib.hid (BL.out.step BB.out)
                clear hb2
                generalize cntF mark lb = cn at *
                have hle1' : decide ((cn : Int) ≤ 1) = true := decide_eq_true (by omega)
                go_wp2_with fail
                refine (sweep w.heap.size cb Fc lb GD.out.rising (by omega) mark _ BM.out.chain BM.out.below.size).mono ?_
                unfold Swept
                rw [GZ.out.1]
                rintro e wz ⟨gz, rfl, hgz, hcz, hmz⟩
                obtain ⟨zq, zc, rfl, -, -, -, -⟩ := (Nums.of_own (xs := []) hgz).slice
                have BZ := Lib.hid (BM.out.put hcz hmz)
                clear hgz hcz hmz
                go_wp2_with fail
                go_ret
                exact ⟨rfl, BZ.out.below⟩

end Go.Proofs.Ytpoophimfjfgkaa
