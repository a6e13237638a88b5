/-
  gather: GatherAgain: the walk.
-/
import Derived.Test.YtfmlhdikagogcaaDoorJ47
namespace Go.Proofs.YtfmlhdikagogcaaDoor
open Go.RowKit
set_option maxRecDepth 20000

set_option maxHeartbeats 40000000 in
theorem gatherAgain (n : Nt) (vp vo vv vh : Value) (s lt fs : Int) (w : World) (hs : 0 ≤ s ∧ s ≤ 18446744073709551615) (hl : 0 ≤ lt ∧ lt ≤ 18446744073709551615) (hf : 0 ≤ fs ∧ fs ≤ 255) (hv : NoteV w (fun _ => True) n vp vo vv vh) (hfit : n.Fits) (hT : Tab w) :
    Calls Tryd.prog 6 #[.agg (n.cells vp vo vv vh), .int .u64 s, .int .u64 lt, .int .u8 fs] w fun e w' => e = .returned (.bool true) ∧ Below w.heap.size w w' := by
  have TT := Lib.hid hT
  have V := Lib.hid hv
  obtain ⟨NC, hNC⟩ : ∃ NC : Array Value, NC = n.cells vp vo vv vh := ⟨_, rfl⟩
  have NSZ : (Tryd.prog.info? 53).map (·.size) = some NC.size := by rw [hNC]; kernel_rfl
  have HNC := Lib.hid hNC
  have FT := Lib.hid hfit
  rw [← hNC]
  clear hT hv hfit hNC
  go_enter Tryd.func6, Tryd.ntmps6
  go_upto_region 1 with fail
  obtain ⟨W0, hW0⟩ : ∃ W0, W0 = w.alloc (.cells NC 53) := ⟨_, rfl⟩
  have y0 : W0.heap[w.heap.size]? = some (.cells NC 53 (0, 0)) := by rw [hW0]; exact heap_alloc_new _ _
  have b0 : Below w.heap.size w W0 := by rw [hW0]; exact (Below.refl _ _).alloc (Nat.le_refl _) _
  rw [← hW0]
  have AW := Lib.hid (awake W0 (TT.out.below b0))
  have Y0 := Lib.hid (And.intro y0 b0)
  clear hW0 y0 b0
  go_wp2_with fail
  refine AW.out.mono ?_
  rintro e w1 ⟨rfl, hb1⟩
  go_wp2_with fail
  refine (newG 3 2 0 w1 (by omega)).mono ?_
  rintro e w2 ⟨c, rfl, hG2, hc2, hb2⟩
  have b02 := hb1.trans (hb2.mono hb1.size)
  have y2 : w2.heap[w.heap.size]? = some (.cells NC 53 (0, 0)) := (b02.block _ (lt_block Y0.out.1)).trans Y0.out.1
  have B2 := Lib.hid (Y0.out.2.trans (b02.mono Y0.out.2.size))
  have hlt : w.heap.size < w1.heap.size := Nat.lt_of_lt_of_le (lt_block Y0.out.1) hb1.size
  have FW := Lib.hid (show Calls Tryd.prog 19 #[.agg NC] w2 (NewNote w2 (fewN n)) from HNC.out ▸ refFew n _ _ _ _ _ w2 (V.out.below B2.out))
  have G2 := Lib.hid (And.intro hG2 (And.intro hc2 (hG2.low c rfl).2))
  have HLT := Lib.hid (And.intro hlt hb2.size)
  clear hG2 hc2 hb1 hb2 b02 AW hlt
  go_wp2_with (refine wpList_load_row rfl 53 _ rfl w.heap.size (by rfl) 53 NC (0, 0) _ y2 Tryd.underlying53 rfl NSZ ?_)
  refine FW.out.mono ?_
  rintro e w3 ⟨vp3, vo3, vv3, vh3, rfl, hN3, hl3, ho3, hb3⟩
  obtain ⟨m, hm⟩ : ∃ m, m = fewN n := ⟨_, rfl⟩
  have FT8 := fewN_fits FT.out
  have ML := fewN_len' n
  rw [← hm] at hN3 hl3 ho3 FT8 ML
  rw [← hm]
  clear hm
  obtain ⟨q3, k3, c3, rfl⟩ := own_form ho3
  obtain rfl : k3 = m.vec.length := own_len ho3
  obtain ⟨MC, hMC⟩ : ∃ MC : Array Value, MC = m.cells vp3 vo3 (.slice q3 m.vec.length c3) vh3 := ⟨_, rfl⟩
  have MSZ : (Tryd.prog.info? 53).map (·.size) = some MC.size := by rw [hMC]; kernel_rfl
  have hmz : NC.size = MC.size := by rw [HNC.out, hMC]; rfl
  have MONE : MC.all (·.oneCell') = true := by rw [hMC]; exact hN3.one16
  rw [← hMC]
  have y3 : w3.heap[w.heap.size]? = some (.cells NC 53 (0, 0)) := (hb3.block _ (lt_block y2)).trans y2
  have NM : NoteM w3 (fun k => w2.heap.size ≤ k ∧ k < w3.heap.size) m vp3 vo3 (.slice q3 m.vec.length c3) vh3 := ⟨⟨hN3.parts, hN3.ops.mono (fun k hk => ⟨hk.1, hk.2.1⟩), hN3.vec, hN3.hits.mono (fun k hk => ⟨hk.1, hk.2.1⟩)⟩, hl3.mono (fun k hk => ⟨hk.1, hk.2.1⟩), fun _ b hb => ho3.lt b hb⟩
  have HMC := Lib.hid hMC
  have NM3 := Lib.hid (And.intro NM hb3)
  have HF := Lib.hid (And.intro FT8 ML)
  clear hMC NM hN3 hl3 ho3 hb3 FT8 ML y2 FW
  go_upto_region 5 with (refine wpList_store_row rfl 53 _ _ rfl w.heap.size MC (by rfl) (by rfl) 53 NC y3 MSZ hmz MONE ?_)
  obtain ⟨W4, hW4⟩ : ∃ W4, W4 = w3.setRow w.heap.size MC := ⟨_, rfl⟩
  rw [← hW4]
  have y4 : W4.heap[w.heap.size]? = some (.cells MC 53 (0, 0)) := by rw [hW4]; exact setRow_heap _ _ _ _ _ _ y3
  have m4 : Mod (fun k => k = w.heap.size) w3 W4 := by rw [hW4]; exact mod_setRow _ _ _
  have b4 : Below w.heap.size w3 W4 := by rw [hW4]; exact below_setRow (Below.refl _ _) (Nat.le_refl _) _
  have f4 := thawed y4 0
  have g4 : W4.cell? ⟨w.heap.size, 0, none⟩ = some (.int .u8 m.kind) := by rw [cells_get y4 0, HMC.out]; rfl
  have M4 := Lib.hid (And.intro y4 (And.intro m4 b4))
  clear hW4 y3 y4 m4 b4
  go_upto_region 6 with fail
  obtain ⟨W5, hW5⟩ : ∃ W5, W5 = W4.setCell ⟨w.heap.size, 0, none⟩ (.int .u8 8) := ⟨_, rfl⟩
  rw [← hW5]
  obtain ⟨m8, hm8⟩ : ∃ m8 : Nt, m8 = {m with kind := 8} := ⟨_, rfl⟩
  have hk8 : m8.kind = 8 := by rw [hm8]
  have hvl : m.vec.length = m8.vec.length := by rw [hm8]
  obtain ⟨PC, hPC⟩ : ∃ PC : Array Value, PC = m8.cells vp3 vo3 (.slice q3 m.vec.length c3) vh3 := ⟨_, rfl⟩
  have y5 : W5.heap[w.heap.size]? = some (.cells PC 53 (0, 0)) := by
    rw [hW5, hPC, hm8]
    have := set_block M4.out.1 0 (.int .u8 8)
    rw [HMC.out] at this
    exact this
  have m5 : Mod (fun k => k = w.heap.size) w3 W5 := by rw [hW5]; exact M4.out.2.1.thenF (mod_setCell _ _ _ _)
  have b5 : Below w.heap.size w3 W5 := by rw [hW5]; exact M4.out.2.2.setCell (p := ⟨w.heap.size, 0, none⟩) (Nat.le_refl _) _
  have PSZ : (Tryd.prog.info? 53).map (·.size) = some PC.size := by rw [hPC]; kernel_rfl
  have hFT := HF.out.1
  have hML := HF.out.2
  rw [← hm8] at hFT
  have NM5 : NoteM W5 (fun k => w2.heap.size ≤ k ∧ k < w3.heap.size) m8 vp3 vo3 (.slice q3 m.vec.length c3) vh3 := by
    have h := NM3.out.1.agree (Agree.of_mod m5 (fun k hk => hk.2) (fun k hk e => by have := HLT.out; omega))
    rw [hm8]
    exact ⟨⟨h.read.parts, h.read.ops, h.read.vec, h.read.hits⟩, h.parts, h.vec⟩
  have A5 : AgS w1.heap.size c (fun k => w2.heap.size ≤ k ∧ k < w3.heap.size) ⟨3, 2, 0, []⟩ W5 := ⟨_, _, (G2.out.1.below NM3.out.2).other m5 (fun e => by have := HLT.out; have := G2.out.2; omega) id, fun k hk => ⟨Nat.lt_of_lt_of_le hk.2 m5.size, fun e => by have := G2.out.2.2; omega⟩⟩
  have B5 := Lib.hid ((B2.out.trans (NM3.out.2.mono B2.out.size)).trans b5)
  have RG : Hid (Calls Tryd.prog 20 #[.agg PC] W5 fun e w' => e = .returned (.bool (rightN m8)) ∧ Below W5.heap.size W5 w') := Lib.hid (by
    have h := refRightN m8 (.inl hk8) hFT _ _ _ _ _ W5 NM5.read
    rw [rgtB_eq m8 (.inl hk8) hFT, ← hPC] at h
    exact h)
  have hsz : w1.heap.size ≤ W5.heap.size := Nat.le_trans (Nat.le_trans HLT.out.2 NM3.out.2.size) m5.size
  have x14 : W5.cell? ⟨w.heap.size, 14, none⟩ = some (.slice q3 m.vec.length c3) := by rw [cells_get y5 14, hPC]; rfl
  have lens : m8.parts.length ≤ 1000000 ∧ m8.ops.length ≤ 1000000 ∧ m8.vec.length ≤ 1000000 ∧ m8.hits.length ≤ 1000000 := by rw [hm8]; exact ⟨Nat.le_trans hML.1 (by decide), Nat.le_trans hML.2.1 (by decide), Nat.le_trans hML.2.2.1 (by decide), Nat.le_trans hML.2.2.2 (by decide)⟩
  have S5 := Lib.hid (And.intro NM5 (And.intro A5 (And.intro hPC (And.intro hsz lens))))
  clear hW5 hm8 m5 b5 hFT hML NM5 A5 hPC hsz lens M4 HMC f4 g4 HF
  have HK := Lib.hid hk8
  clear hk8
  by_cases h2 : m.vec.length = 2
  · have H2 := Lib.hid (show m8.vec.length = 2 from hvl ▸ h2)
    rw [h2] at S5 x14
    clear hvl h2
    by_cases hr : rightN m8 = true
    · rw [hr] at RG
      have HR := Lib.hid hr
      clear hr
      go_wp2_with (first | refine wpList_load_row rfl 53 _ rfl w.heap.size (by rfl) 53 PC (0, 0) _ y5 Tryd.underlying53 rfl PSZ ?_ | refine wpList_rowG 53 _ rfl (by rfl) w.heap.size (by rfl) 53 PC (0, 0) _ y5 Tryd.underlying53 rfl PSZ ?_)
      with_reducible refine RG.out.mono ?_
      rintro e w6 ⟨rfl, hb6⟩
      have hb6s := hb6.size
      obtain ⟨hNM, hA, hPC, hsz, lens⟩ := S5.out
      have B6 := Lib.hid (B5.out.trans (hb6.mono B5.out.size))
      obtain ⟨s', hs', hs1⟩ : ∃ s' : Int, s' = s % 549755813888 ∧ 0 ≤ s' ∧ s' < 549755813888 := ⟨_, rfl, by omega, by omega⟩
      have y6 : w6.heap[w.heap.size]? = some (.cells PC 53 (0, 0)) := (hb6.block _ (lt_block y5)).trans y5
      have A := askA w1.heap.size c _ ⟨3, 2, 0, []⟩ m8 vp3 vo3 (.slice q3 2 c3) vh3 _ 4 s' 0 w6 (TT.out.below B6.out) (hA.below hb6) (Nat.le_trans hsz hb6.size) agn_ok0 (hNM.read.below hb6) (by rw [HK.out]; decide) lens (agn_ask HK.out HR.out H2.out s')
      rw [← hPC] at A
      have AK := Lib.hid A
      have NM6 := Lib.hid (And.intro (hNM.below hb6) (And.intro hPC lens))
      have SZ6 := Lib.hid (Nat.le_trans hsz hb6.size)
      clear hNM hA hPC hsz lens A S5 hb6 y5 RG hb6s
      go_upto_region 9 with fail
      rw [← hs']
      clear hs'
      go_wp2_with (refine wpList_load_row rfl 53 _ rfl w.heap.size (by rfl) 53 PC (0, 0) _ y6 Tryd.underlying53 rfl PSZ ?_)
      with_reducible refine AK.out.mono ?_
      rintro e w7 ⟨v7, rs7, rfl, ho7, hs7, hA7, hag7, hb7, -⟩
      obtain ⟨a1, a2, a3, a4, r2, rfl, hs8⟩ := says_cons hs7
      obtain ⟨d1, d2, d3, d4, r3, rfl, hs9⟩ := says_cons hs8
      obtain ⟨e1, e2, e3, e4, r4, rfl, hs10⟩ := says_cons hs9
      obtain rfl := says_nil hs10
      obtain ⟨q7, k7, c7, rfl⟩ := own_form ho7
      obtain ⟨b7, rfl, rfl, -, -, hc⟩ := mails_at ho7 (by simp)
      have z7 : w7.cell? ⟨b7, 7, none⟩ = some (.int .u64 1) := hc 0 7 _ (by simp) rfl
      have y7 : w7.heap[w.heap.size]? = some (.cells PC 53 (0, 0)) := (hb7.block _ HLT.out.1).trans y6
      have B7 := Lib.hid (B6.out.trans (hb7.mono (Nat.le_of_lt HLT.out.1)))
      have NM7 := Lib.hid (And.intro (NM6.out.1.agree hag7) NM6.out.2)
      have A7 := Lib.hid hA7
      have SZ7 := Lib.hid (Nat.le_trans SZ6.out hb7.size)
      clear hs7 hs8 hs9 hs10 ho7 hA7 hag7 hb7 hc AK NM6 y6 B6
      obtain ⟨p, hp, hp1⟩ : ∃ p : Int, p = 1 + fs % 3 ∧ (p = 1 ∨ p = 2 ∨ p = 3) := ⟨_, rfl, agn_p fs hf.1⟩
      have hpw : IntKind.i64.wrap (1 + fs % 3) = p := by rw [hp]; simp only [IntKind.wrap, IntKind.bits, IntKind.signed]; simp; omega
      have HP := Lib.hid (And.intro hp hp1)
      clear hp
      go_upto_region 14 with fail
      obtain ⟨W8, hW8⟩ : ∃ W8, W8 = w7.alloc (.cells #[.int .u8 10, .int .u64 0, .int .u64 0, .int .u64 0, .int .u64 0, .int .u64 0, .int .u64 1, .int .u64 0, .int .i64 0, .int .i64 0, .int .i64 0, .int .i64 0, .slice none 0 0, .slice none 0 0, .slice none 0 0, .slice none 0 0] 37) := ⟨_, rfl⟩
      rw [← hW8]
      have b8 : Below w7.heap.size w7 W8 := by rw [hW8]; exact (Below.refl _ _).alloc (Nat.le_refl _) _
      have z8 : W8.heap[w7.heap.size]? = some (.cells #[.int .u8 10, .int .u64 0, .int .u64 0, .int .u64 0, .int .u64 0, .int .u64 0, .int .u64 1, .int .u64 0, .int .i64 0, .int .i64 0, .int .i64 0, .int .i64 0, .slice none 0 0, .slice none 0 0, .slice none 0 0, .slice none 0 0] 37 (0, 0)) := by rw [hW8]; exact heap_alloc_new _ _
      have OK1 := Lib.hid (agn_ok1 HK.out HR.out H2.out s' HP.out.2)
      have HR0 := HR
      clear HR
      have PCE := NM7.out.2.1
      have LENS := Lib.hid NM7.out.2.2
      have S8 : Hid (AgW w w1.heap.size c (fun k => (w2.heap.size ≤ k ∧ k < w3.heap.size) ∨ k = w7.heap.size) m8 vp3 vo3 (.slice q3 2 c3) vh3 w7.heap.size (agG m8 s' []) W8) := Lib.hid ⟨(A7.out.grow b8).mono (fun k hk => hk.elim (fun h => .inl (.inl h)) (fun e => .inr (by rw [e]; exact ⟨Nat.le_refl _, lt_block z8⟩))), (NM7.out.1.below b8).mono (fun k h => .inl h), by rw [← PCE]; exact (b8.block _ (lt_block y7)).trans y7, z8, B7.out.trans (b8.mono B7.out.size), Nat.le_trans SZ7.out b8.size, HLT.out.1, .inr rfl⟩
      have HPC := Lib.hid PCE
      obtain ⟨SC, hSC⟩ : ∃ SC : Array Value, SC = #[.int .u8 10, .int .u64 0, .int .u64 0, .int .u64 0, .int .u64 0, .int .u64 0, .int .u64 1, .int .u64 0, .int .i64 0, .int .i64 0, .int .i64 0, .int .i64 0, .slice none 0 0, .slice none 0 0, .slice none 0 0, .slice none 0 0] := ⟨_, rfl⟩
      have SSZ : (Tryd.prog.info? 37).map (·.size) = some SC.size := by rw [hSC]; kernel_rfl
      have HSC := Lib.hid hSC
      clear hSC
      clear hW8 b8 z8 PCE z7 y7 NM7 A7 B7 SZ7
      have HR := Lib.hid (hearA w1.heap.size c _ (agG m8 s' []) 1 p W8 (TT.out.below S8.out.since) S8.out.ag S8.out.size (agn_ok HK.out HR0.out H2.out s') (agn_hear HP.out.2))
      have zz := S8.out.seen
      rw [← HSC.out] at zz HR
      go_wp2_with (first | refine wpList_load_row rfl 37 _ rfl w7.heap.size (by rfl) 37 SC (0, 0) _ zz Tryd.underlying37 rfl SSZ ?_ | refine wpList_rowG 37 _ rfl (by rfl) w7.heap.size (by rfl) 37 SC (0, 0) _ zz Tryd.underlying37 rfl SSZ ?_)
      with_reducible refine HR.out.mono ?_
      rintro e wa ht
      obtain ⟨v9, rs9, rfl, ho9, hs9, hW9, -⟩ := S8.out.told ht
      obtain rfl := says_nil hs9
      obtain ⟨q9, k9, c9, rfl⟩ := own_form ho9
      obtain rfl : k9 = 0 := own_len ho9
      have Sa := Lib.hid hW9
      clear ht ho9 hs9 hW9 zz HR
      have HR := Lib.hid (hearA w1.heap.size c _ (agG m8 s' [(p, [])]) 1 p wa (TT.out.below Sa.out.since) Sa.out.ag Sa.out.size OK1.out (agn_twice HP.out.2))
      have zz := Sa.out.seen
      rw [← HSC.out] at zz HR
      go_wp2_with (first | refine wpList_load_row rfl 37 _ rfl w7.heap.size (by rfl) 37 SC (0, 0) _ zz Tryd.underlying37 rfl SSZ ?_ | refine wpList_rowG 37 _ rfl (by rfl) w7.heap.size (by rfl) 37 SC (0, 0) _ zz Tryd.underlying37 rfl SSZ ?_)
      with_reducible refine HR.out.mono ?_
      rintro e wb ht
      obtain ⟨v9, rs9, rfl, ho9, hs9, hW9, -⟩ := Sa.out.told ht
      obtain rfl := says_nil hs9
      obtain ⟨q9, k9, c9, rfl⟩ := own_form ho9
      obtain rfl : k9 = 0 := own_len ho9
      have Sb := Lib.hid hW9
      clear ht ho9 hs9 hW9 zz HR
      have HR := Lib.hid (hearA w1.heap.size c _ (agG m8 s' [(p, [])]) 1 9 wb (TT.out.below Sb.out.since) Sb.out.ag Sb.out.size OK1.out (agn_nine HP.out.2))
      have zz := Sb.out.seen
      rw [← HSC.out] at zz HR
      go_wp2_with (first | refine wpList_load_row rfl 37 _ rfl w7.heap.size (by rfl) 37 SC (0, 0) _ zz Tryd.underlying37 rfl SSZ ?_ | refine wpList_rowG 37 _ rfl (by rfl) w7.heap.size (by rfl) 37 SC (0, 0) _ zz Tryd.underlying37 rfl SSZ ?_)
      with_reducible refine HR.out.mono ?_
      rintro e wc ht
      obtain ⟨v9, rs9, rfl, ho9, hs9, hW9, -⟩ := Sb.out.told ht
      obtain rfl := says_nil hs9
      obtain ⟨q9, k9, c9, rfl⟩ := own_form ho9
      obtain rfl : k9 = 0 := own_len ho9
      have Sc := Lib.hid hW9
      clear ht ho9 hs9 hW9 zz HR
      have yc : wc.heap[w.heap.size]? = some (.cells PC 53 (0, 0)) := by rw [HPC.out]; exact Sc.out.own
      obtain ⟨st, hst⟩ : ∃ st : Int, st = s' + lt % 1000 := ⟨_, rfl⟩
      have hsw : IntKind.u64.wrap (s' + lt % 1000) = st := by rw [hst]; simp only [IntKind.wrap, IntKind.bits, IntKind.signed]; simp; omega
      have A := askA w1.heap.size c _ (agG m8 s' [(p, [])]) m8 vp3 vo3 (.slice q3 2 c3) vh3 _ 4 st 5 wc (TT.out.below Sc.out.since) Sc.out.ag Sc.out.size OK1.out Sc.out.note.read (by rw [HK.out]; decide) LENS.out (agn_again HK.out HR0.out HP.out.2)
      rw [← HPC.out] at A
      have AK := Lib.hid A
      clear A hst
      go_wp2_with (refine wpList_load_row rfl 53 _ rfl w.heap.size (by rfl) 53 PC (0, 0) _ yc Tryd.underlying53 rfl PSZ ?_)
      with_reducible refine AK.out.mono ?_
      rintro e wd ht
      obtain ⟨v9, rs9, rfl, ho9, hs9, hW9, hK9, hone⟩ := Sc.out.told ht
      have hl2 : rs9.length = 2 := by have := congrArg List.length hs9; simpa using this
      have each : ∀ k (h : k < rs9.length), rs9[k].who ≠ p ∧ rs9[k].note = lookN m8 s' := by
        intro k h
        have hm : rs9[k].says ∈ rs9.map Mv.says := List.mem_map.2 ⟨_, List.getElem_mem h, rfl⟩
        rw [hs9] at hm
        simp only [List.mem_cons, List.not_mem_nil, or_false, Mv.says, Prod.mk.injEq] at hm
        have hne := left_ne HP.out.2
        rcases hm with ⟨e1, e2⟩ | ⟨e1, e2⟩
        · exact ⟨e1 ▸ hne.1, e2⟩
        · exact ⟨e1 ▸ hne.2, e2⟩
      obtain ⟨q9, k9, c9, rfl⟩ := own_form ho9
      obtain rfl : k9 = 2 := (own_len ho9).trans hl2
      have R9 := Lib.hid (And.intro hl2 (And.intro each hone))
      have WK := Lib.hid (wakeA w1.heap.size c _ (agG m8 s' [(p, [])]) wd hK9 hW9.size OK1.out)
      rw [agn_wake HP.out.2] at WK
      have Sd := Lib.hid (And.intro hW9 ho9)
      clear ht hs9 ho9 hW9 hK9 hl2 each hone AK Sc yc hsw
      go_wp2_with fail
      with_reducible refine WK.out.mono ?_
      rintro e we ht
      obtain ⟨v8, rs8, rfl, ho8, hs8, hW8, hrow⟩ := Sd.out.1.beside Sd.out.2 ht
      obtain ⟨u1, u2, u3, u4, r2, rfl, hs9⟩ := says_cons hs8
      obtain ⟨f1, f2, f3, f4, r3, rfl, hs10⟩ := says_cons hs9
      obtain rfl := says_nil hs10
      obtain ⟨q8, k8, c8, rfl⟩ := own_form ho8
      obtain rfl : k8 = 2 := own_len ho8
      have LN := Lib.hid (show Calls Tryd.prog 15 #[.pointer (some ⟨c, 0, none⟩)] we fun e w' => e = .returned (.int .i64 1) ∧ we = w' from lenA w1.heap.size c _ (agG m8 s' [(p, [])]) we hW8.ag)
      have Se := Lib.hid (And.intro hW8 hrow)
      clear ht hs8 hs9 hs10 ho8 hW8 hrow WK Sd
      go_wp2_with fail
      with_reducible refine LN.out.mono ?_
      rintro e w' ⟨rfl, rfl⟩
      go_wp2_with fail
      have sw1 : IntKind.u64.wrap (s' + 1) = s' + 1 := by simp only [IntKind.wrap, IntKind.bits, IntKind.signed]; simp; omega
      go_loopg [98] 2 (fun q i wr => ∃ k : Nat, q = 2 - k ∧ k ≤ 2 ∧ i = .int .i64 k ∧ AgW w w1.heap.size c (fun k => (w2.heap.size ≤ k ∧ k < w3.heap.size) ∨ k = w7.heap.size) m8 vp3 vo3 (.slice q3 2 c3) vh3 w7.heap.size (agG m8 s' [(p, [])]) wr ∧ wr.ownsRow wc.heap.size 44 17 (.slice q9 2 c9) rs9.length (flatM rs9))
      case atStart => exact ⟨0, rfl, by omega, rfl, Se.out.1, Se.out.2⟩
      case round =>
        obtain ⟨k, rfl, hk, rfl, hW, hrow⟩ := hrel
        by_cases hlt : k < 2
        · have hkr : k < rs9.length := by rw [R9.out.1]; exact hlt
          obtain ⟨b9, rfl, -, -, -, hc7⟩ := mails_at hrow (by omega)
          obtain ⟨MV, hMV⟩ : ∃ MV : List Value, MV = rs9[k].cells := ⟨_, rfl⟩
          have MLN : MV.length = 17 := by rw [hMV]; exact Mv.cells_length _
          have SJ : (Tryd.prog.info? 44).map (·.size) = some MV.length := by rw [MLN]; kernel_rfl
          have SJ' : (Tryd.prog.info? 44).map (·.size) = some MV.toArray.size := by rw [List.size_toArray, MLN]; kernel_rfl
          have RJ : wr.rangeAt b9 (k * 17) MV := by rw [hMV]; exact fun i u hi => hc7 k i u hkr hi
          have OJ : MV.toArray.all (·.oneCell') = true := by rw [hMV]; exact R9.out.2.2 _ (List.getElem_mem hkr)
          have hjz : (#[.int .i64 0, .int .u8 0, .int .u64 0, .int .u64 0, .int .u64 0, .int .u64 0, .int .u64 0, .int .u64 0, .int .u64 0, .int .i64 0, .int .i64 0, .int .i64 0, .int .i64 0, .slice none 0 0, .slice none 0 0, .slice none 0 0, .slice none 0 0] : Array Value).size = MV.toArray.size := by rw [show MV.toArray.size = 17 by rw [List.size_toArray, MLN]]; rfl
          obtain ⟨Wb, hWb⟩ : ∃ Wb, Wb = (wr.alloc (.cells #[.int .i64 0, .int .u8 0, .int .u64 0, .int .u64 0, .int .u64 0, .int .u64 0, .int .u64 0, .int .u64 0, .int .u64 0, .int .i64 0, .int .i64 0, .int .i64 0, .int .i64 0, .slice none 0 0, .slice none 0 0, .slice none 0 0, .slice none 0 0] 44)).setRow wr.heap.size MV.toArray := ⟨_, rfl⟩
          have bb : Below wr.heap.size wr Wb := by rw [hWb]; exact below_setRow ((Below.refl _ _).alloc (Nat.le_refl _) _) (Nat.le_refl _) _
          have yb : Wb.heap[wr.heap.size]? = some (.cells MV.toArray 44 (0, 0)) := by rw [hWb]; exact setRow_heap _ _ _ _ _ _ (heap_alloc_new _ _)
          obtain ⟨hnp, hnt⟩ := R9.out.2.1 k hkr
          obtain ⟨y, hy⟩ : ∃ y, y = rs9[k].who := ⟨_, rfl⟩
          rw [← hy] at hnp
          have hyp : (y == p) = false := beq_eq_false_iff_ne.2 hnp
          have e0 : Wb.cell? ⟨wr.heap.size, 0, none⟩ = some (.int .i64 y) := by rw [hy, cells_get yb 0, List.getElem?_toArray, hMV]; rfl
          have e4 : Wb.cell? ⟨wr.heap.size, 4, none⟩ = some (.int .u64 s') := by
            rw [cells_get yb 4, List.getElem?_toArray, hMV]
            show some (Value.int .u64 rs9[k].note.stamp) = _
            rw [hnt]; rfl
          have e6 : Wb.cell? ⟨wr.heap.size, 6, none⟩ = some (.int .u64 0) := by
            rw [cells_get yb 6, List.getElem?_toArray, hMV]
            show some (Value.int .u64 rs9[k].note.mark) = _
            rw [hnt]; rfl
          have e7 : Wb.cell? ⟨wr.heap.size, 7, none⟩ = some (.int .u64 1) := by
            rw [cells_get yb 7, List.getElem?_toArray, hMV]
            show some (Value.int .u64 rs9[k].note.query) = _
            rw [hnt]; rfl
          have WN := Lib.hid (hW.below bb)
          have sq : Wb.cell? ⟨w7.heap.size, 6, none⟩ = some (.int .u64 1) := (seen_get WN.out.seen).2.1.2.1
          have rowB := Lib.hid (own_below hrow bb)
          have HWb := Lib.hid hWb
          have j0 : (0 : Int) ≤ (k : Int) := by omega
          have jl' : (k : Int) < 2 := by omega
          clear hW hrow hc7 hMV bb yb hWb hy hnt
          go_upto_region 22 with (first | refine wpList_load_mid rfl 44 _ rfl b9 (k * 17) (by rfl) MV _ RJ Tryd.underlying44 rfl SJ ?_ | refine wpList_store_row rfl 44 _ _ rfl wr.heap.size MV.toArray (by rfl) (by rfl) 44 #[.int .i64 0, .int .u8 0, .int .u64 0, .int .u64 0, .int .u64 0, .int .u64 0, .int .u64 0, .int .u64 0, .int .u64 0, .int .i64 0, .int .i64 0, .int .i64 0, .int .i64 0, .slice none 0 0, .slice none 0 0, .slice none 0 0, .slice none 0 0] (heap_alloc_new _ _) SJ' hjz OJ ?_)
          rw [← HWb.out]
          go_wp2_with fail
          go_roundg (2 - (k + 1))
          case measure => omega
          case rel => exact ⟨k + 1, rfl, by omega, by go_num, WN.out, rowB.out⟩
        · obtain rfl : k = 2 := by omega
          have OLD := Lib.hid (show Calls Tryd.prog 22 #[.pointer (some ⟨c, 0, none⟩), .int .u64 (s' + 1)] wr fun e w' => e = .returned (.int .u64 s') ∧ wr = w' from by
            have h := oldA w1.heap.size c _ (agG m8 s' [(p, [])]) (s' + 1) wr hW.ag (by simp [agG])
            rw [agn_old] at h
            exact h)
          have BE := Lib.hid hW.since
          clear hW hrow
          go_wp2_with fail
          with_reducible refine OLD.out.mono ?_
          rintro e w' ⟨rfl, rfl⟩
          go_wp2_with fail
          go_ret
          exact ⟨rfl, BE.out⟩
    · rw [Bool.not_eq_true] at hr
      rw [hr] at RG
      clear hr
      go_wp2_with (first | refine wpList_load_row rfl 53 _ rfl w.heap.size (by rfl) 53 PC (0, 0) _ y5 Tryd.underlying53 rfl PSZ ?_ | refine wpList_rowG 53 _ rfl (by rfl) w.heap.size (by rfl) 53 PC (0, 0) _ y5 Tryd.underlying53 rfl PSZ ?_)
      with_reducible refine RG.out.mono ?_
      rintro e w6 ⟨rfl, hb6⟩
      have B6 := Lib.hid (B5.out.trans (hb6.mono B5.out.size))
      clear hb6
      go_wp2_with fail
      go_ret
      exact ⟨rfl, B6.out⟩
  · have h2i : ¬ (m.vec.length : Int) = 2 := by omega
    have h2b : ((m.vec.length : Int) == 2) = false := beq_eq_false_iff_ne.2 h2i
    clear hvl
    go_wp2_with fail
    go_ret
    exact ⟨rfl, B5.out⟩

end Go.Proofs.YtfmlhdikagogcaaDoor
