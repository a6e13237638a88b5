/-
  disk's law: DiskRoom.
-/
import Derived.Test.YtdcgooleiefljaaJ23
namespace Go.Proofs.Ytdcgooleiefljaa
open Go.RowKit Go.ChangeMaps Go.Shelf



set_option maxRecDepth 100000 in
set_option maxHeartbeats 16000000 in
theorem diskRoom (rm : Int) (l : List Od) (v : Value) (w : World) (hrm : 0 ≤ rm ∧ rm ≤ 65535) (hl : ScriptD w v l) (hf : ∀ r ∈ l, r.Fits) :
    Calls Try.prog 3 #[.int .u16 rm, v] w fun e w' => e = .returned (.bool true) ∧ Below w.heap.size w w' := by
  obtain ⟨pv, cv, rfl, hll, hlc, -⟩ := id hl
  have SC := Lib.hid hl
  have FI := Lib.hid hf
  have hL : l.length ≤ 9223372036854775807 := by omega
  obtain ⟨n, hn⟩ : ∃ n : Nat, (n : Int) = rm % 800 := ⟨(rm % 800).toNat, by omega⟩
  have hn8 : n < 800 := by omega
  have ht : rm.tmod 800 = n := by rw [Int.tmod_eq_emod_of_nonneg hrm.1, hn]
  have hw1 : IntKind.u16.wrap (n : Int) = n := by simp [IntKind.wrap, IntKind.signed, IntKind.bits] <;> omega
  have hw2 : IntKind.i64.wrap (n : Int) = n := by simp [IntKind.wrap, IntKind.signed, IntKind.bits] <;> omega
  clear hl hf hll hlc hn hrm
  go_enter Try.func3, Try.ntmps3
  go_wp2_with (go_at_call 6; refine (dkAwake w).mono ?_; rintro e w1 ⟨rfl, hb1⟩; have B1 := Lib.hid hb1; clear hb1)
  go_wp2_with (go_at_call 7; refine (dkNew w1 n (by omega)).mono ?_; rintro e w2 ⟨p, m, rfl, hD, hb2⟩; have D2 := Lib.hid (show DS w w2 w1.heap.size p m (-1) false n [] [] from ⟨hD, rfl, B1.out.size, B1.out.trans (hb2.mono B1.out.size)⟩); clear hD hb2)
  go_loopg [27] l.length (fun q i wr => ∃ (k : Nat) (F : List Fz) (S : List (List UInt8 × List UInt8 × Nat)), q = l.length - k ∧ k ≤ l.length ∧ i = .int .i64 k ∧ DS w wr w1.heap.size p m (-1) false n F S ∧ sizeS S ≤ n ∧ S.length ≤ 16)
  case atStart => exact ⟨0, [], [], rfl, by omega, rfl, D2.out, by simp [sizeS], by simp⟩
  case round =>
    obtain ⟨k, F, S, rfl, hk, rfl, hD, hS1, hS2⟩ := hrel
    by_cases hlt : k < l.length
    · have ST := Lib.hid hD
      have FITS := Lib.hid (And.intro hS1 hS2)
      clear hD
      obtain ⟨bs, os, vn, vp, vk, rfl, hc, hod⟩ := ScriptD.elem (SC.out.below ST.out.old) (i := k) hlt
      have FT := Lib.hid (FI.out l[k] (List.getElem_mem _))
      obtain ⟨o, ho⟩ : ∃ o, o = l[k] := ⟨_, rfl⟩
      rw [← ho] at hc hod FT
      have HO := Lib.hid ho
      clear ho
      obtain ⟨CS, hCS⟩ : ∃ CS, CS = o.cells vn vp vk := ⟨_, rfl⟩
      rw [← hCS] at hc
      have LEN : CS.length = 7 := by rw [hCS]; rfl
      have RA : wr.rangeAt bs (os + k * 7) CS := hc
      have SZ : (Try.prog.info? 33).map (·.size) = some CS.length := by rw [LEN]; kernel_rfl
      have SZ' : (Try.prog.info? 33).map (·.size) = some CS.toArray.size := by rw [List.size_toArray, LEN]; kernel_rfl
      have ONE : CS.toArray.all (·.oneCell') = true := by rw [hCS]; exact hod.one
      have hsz : (#[.int .u8 0, .string ⟨#[]⟩, .string ⟨#[]⟩, .slice none 0 0, .slice none 0 0, .int .i64 0, .slice none 0 0] : Array Value).size = CS.toArray.size := by rw [show CS.toArray.size = 7 by rw [List.size_toArray, LEN]]; rfl
      obtain ⟨Wa, hWa⟩ : ∃ Wa, Wa = (wr.alloc (.cells #[.int .u8 0, .string ⟨#[]⟩, .string ⟨#[]⟩, .slice none 0 0, .slice none 0 0, .int .i64 0, .slice none 0 0] 33)).setRow wr.heap.size CS.toArray := ⟨_, rfl⟩
      have ba : Below wr.heap.size wr Wa := by rw [hWa]; exact below_setRow ((Below.refl _ _).alloc (Nat.le_refl _) _) (Nat.le_refl _) _
      have ya : Wa.heap[wr.heap.size]? = some (.cells CS.toArray 33 (0, 0)) := by rw [hWa]; exact setRow_heap _ _ _ _ _ _ (heap_alloc_new _ _)
      have FW := Lib.hid (hCS ▸ few_call Wa o vn vp vk (hod.below ba) FT.out)
      have HWA := Lib.hid (And.intro hWa ba)
      obtain ⟨g, hg⟩ : ∃ g, g = wr.heap.size := ⟨_, rfl⟩
      have HG := Lib.hid hg
      clear hc hod hCS ba hWa
      go_upto_region 8 with (first | refine wpList_load_mid rfl 33 _ rfl bs (os + k * 7) (by rfl) CS _ RA Try.underlying33 rfl SZ ?_ | refine wpList_store_row rfl 33 _ _ rfl wr.heap.size CS.toArray (by rfl) (by rfl) 33 #[.int .u8 0, .string ⟨#[]⟩, .string ⟨#[]⟩, .slice none 0 0, .slice none 0 0, .int .i64 0, .slice none 0 0] (heap_alloc_new _ _) SZ' hsz ONE ?_)
      rw [← HWA.out.1, ← hg]
      rw [← hg] at ya
      clear SZ RA hsz hg
      by_cases h60 : k < 60
      rotate_left
      · have hkk' : (60 : Int) ≤ (k : Int) := by omega
        have PA := Lib.hid (ST.out.old.trans (HWA.out.2.mono ST.out.old.size))
        clear ONE SZ'
        go_wp2_with fail
        go_ret
        exact ⟨rfl, PA.out⟩
      have hkk : ¬ 60 ≤ k := by omega
      have hkk' : ¬ (60 : Int) ≤ (k : Int) := by omega
      go_wp2_with (refine wpList_load_row rfl 33 _ rfl g (by rfl) 33 CS.toArray (0, 0) _ ya Try.underlying33 rfl SZ' ?_)
      refine FW.out.mono ?_
      rintro e w4 ⟨vn4, vp4, vk4, rfl, hF4, hb4⟩
      obtain ⟨OC, hOC⟩ : ∃ OC : Array Value, OC = #[.int .u8 o.act, strV (o.name.take 12), strV (o.nto.take 12), vn4, vp4, .int .i64 o.n, vk4] := ⟨_, rfl⟩
      rw [← hOC]
      have y4 : w4.heap[g]? = some (.cells CS.toArray 33 (0, 0)) := (hb4.block g (lt_block ya)).trans ya
      have OSZ : (Try.prog.info? 33).map (·.size) = some OC.size := by rw [hOC]; kernel_rfl
      have hmz : CS.toArray.size = OC.size := by rw [hOC, List.size_toArray, LEN]; rfl
      obtain ⟨pn4, nn4, cn4, rfl⟩ := own_form hF4.names
      obtain ⟨pp4, np4, cp4, rfl⟩ := own_form hF4.parts.choose_spec.1
      obtain ⟨pk4, nk4, ck4, rfl⟩ := own_form hF4.keep
      have OONE : OC.all (·.oneCell') = true := by rw [hOC]; simp [Value.oneCell', strV]
      obtain ⟨W5, hW5⟩ : ∃ W5, W5 = w4.setRow g OC := ⟨_, rfl⟩
      have y5 : W5.heap[g]? = some (.cells OC 33 (0, 0)) := by rw [hW5]; exact setRow_heap _ _ _ _ _ _ y4
      have hga : g < Wa.heap.size := lt_block ya
      have b5 : Below wr.heap.size wr W5 := by
        rw [hW5]
        exact below_setRow (HWA.out.2.trans (hb4.mono HWA.out.2.size)) (by rw [HG.out]; exact Nat.le_refl _) _
      have F5 : FewV Wa.heap.size W5 o (.slice pn4 nn4 cn4) (.slice pp4 np4 cp4) (.slice pk4 nk4 ck4) := hF4.agree fun j h1 _ => by rw [hW5]; exact setRow_other _ _ _ _ (by omega)
      have D5 := Lib.hid (ST.out.below b5)
      obtain ⟨sN, hsN⟩ : ∃ sN : ByteArray, sN = ⟨(o.name.take 12).toArray⟩ := ⟨_, rfl⟩
      obtain ⟨sT, hsT⟩ : ∃ sT : ByteArray, sT = ⟨(o.nto.take 12).toArray⟩ := ⟨_, rfl⟩
      have HS := Lib.hid (And.intro (show Value.string sN = strV (o.name.take 12) from by rw [hsN]; rfl) (show Value.string sT = strV (o.nto.take 12) from by rw [hsT]; rfl))
      clear hsN hsT
      rw [← HS.out.1, ← HS.out.2] at hOC
      have G5 := Lib.hid (And.intro y5 (And.intro b5 F5))
      have x0 : W5.cell? ⟨g, 0, none⟩ = some (.int .u8 o.act) := by rw [cellsG y5 0, hOC]; rfl
      have x1 : W5.cell? ⟨g, 1, none⟩ = some (.string sN) := by rw [cellsG y5 1, hOC]; rfl
      have x2 : W5.cell? ⟨g, 2, none⟩ = some (.string sT) := by rw [cellsG y5 2, hOC]; rfl
      have x3 : W5.cell? ⟨g, 3, none⟩ = some (.slice pn4 nn4 cn4) := by rw [cellsG y5 3, hOC]; rfl
      have x4 : W5.cell? ⟨g, 4, none⟩ = some (.slice pp4 np4 cp4) := by rw [cellsG y5 4, hOC]; rfl
      have x5 : W5.cell? ⟨g, 5, none⟩ = some (.int .i64 o.n) := by rw [cellsG y5 5, hOC]; rfl
      have X := Lib.hid (And.intro x0 (And.intro x1 (And.intro x2 (And.intro x3 (And.intro x4 x5)))))
      have HW5 := Lib.hid hW5
      have GA := Lib.hid hga
      clear y5 b5 F5 hF4 hb4 hOC hW5 x0 x1 x2 x3 x4 x5 ya hga FW LEN ONE SZ'
      go_upto_region 10 with (refine wpList_store_row rfl 33 _ _ rfl g OC (by rfl) (by rfl) 33 CS.toArray y4 OSZ hmz OONE ?_)
      rw [← HW5.out]
      clear OSZ hmz OONE y4
      -- Used
      obtain ⟨U, hU⟩ : ∃ U, U = sizeS S := ⟨_, rfl⟩
      have hUF : usedF F = U := by rw [D5.out.used, hU]; rfl
      have hUn : U ≤ n := by rw [hU]; exact FITS.out.1
      have cU := Lib.hid (dkUsed W5 _ p m (-1) false n F D5.out.at_ (by omega))
      rw [hUF] at cU
      have HU := Lib.hid (And.intro hU hUF)
      clear hU hUF
      go_wp2_with (go_at_call 9; refine cU.out.mono ?_; rintro e w6 ⟨rfl, hb⟩; have B6 := Lib.hid hb; have D6 := Lib.hid (D5.out.below hb); have X1 := below_cells hb X.out.2.1; have X4 := below_cells hb X.out.2.2.2.2.1; have F6 := Lib.hid (G5.out.2.2.agree fun j _ hj => hb.block j hj); clear hb)
      -- Write
      have hpB : p < Wa.heap.size := by have h1 := ST.out.plt; have h2 := HWA.out.2.size; omega
      have cW := dkWrite w6 _ p m (-1) false n F D6.out.at_ (by omega) (o.name.take 12) (.slice pp4 np4 cp4) o.parts4 (fun W hM => (F6.out.agree fun j h1 h2 => hM.block j h2 (by omega)).partsAt) (by have := (parts4_len o).2.1; omega) (by have := (parts4_len o).1; omega) (by rw [HU.out.2]; omega)
      obtain ⟨z, S', hz, hways⟩ : ∃ z S', writeZ n S (sizeS S) (o.name.take 12) o.parts4.flatten = (z, S') ∧ ((z = 4 ∧ S' = S) ∨ (z = 8 ∧ S' = S ∧ ((n : Int) < sizeS S + o.parts4.flatten.length ∨ 16 ≤ S.length)) ∨ (z = 0 ∧ sizeS S' = sizeS S + o.parts4.flatten.length ∧ (sizeS S' : Int) ≤ n ∧ (S.length ≤ 16 → S'.length ≤ 16))) := by
        rcases writeZ_ways n S (o.name.take 12) o.parts4.flatten D6.out.names with h | ⟨h, h2⟩ | ⟨S', h, h2⟩
        · exact ⟨4, S, h, .inl ⟨rfl, rfl⟩⟩
        · exact ⟨8, S, h, .inr (.inl ⟨rfl, rfl, h2⟩)⟩
        · exact ⟨0, S', h, .inr (.inr ⟨rfl, h2⟩)⟩
      rw [spend_free, D6.out.pl, HU.out.2, HU.out.1, hz, ← HS.out.1] at cW
      simp only [if_true] at cW
      have CW := Lib.hid cW
      have WY := Lib.hid hways
      clear cW hz hways hpB
      go_wp2_with (go_at_call 10; refine CW.out.mono ?_; rintro e w7 ⟨rfl, F', hp, hD, hS⟩; have D7 := Lib.hid (D6.out.step hS hD hp); have E7 := Lib.hid (fun j (h1 : wr.heap.size ≤ j) (h2 : j < w6.heap.size) => DkStep.fresh ST.out.at_ hS h1 h2); have X4' := (World.cell?_of_block (E7.out g (Nat.le_of_eq HG.out.symm) (lt_of_cell X4))).trans X4; clear hp hD hS)
      -- how many bytes
      have F7 := F6.out.agree (w' := w7) (fun j h1 h2 => E7.out j (Nat.le_trans HWA.out.2.size h1) h2)
      have FV7 := Lib.hid F7
      obtain ⟨us, hrow, hheld⟩ := F7.parts
      obtain rfl : np4 = us.length := own_len hrow
      have RU := Lib.hid (reads_own hrow)
      have RH := Lib.hid hheld
      have hu4 : us.length ≤ 4 := by rw [hheld.1]; exact (parts4_len o).1
      obtain ⟨sz, hszd⟩ : ∃ sz : Nat → Nat, sz = fun j => ((o.parts4.take j).map List.length).sum := ⟨_, rfl⟩
      have SZD := Lib.hid hszd
      have hz0 : sz 0 = 0 := by rw [hszd]; rfl
      have hzs : ∀ j (hj : j < o.parts4.length), sz (j + 1) = sz j + o.parts4[j].length := by
        intro j hj
        rw [hszd]
        simp only [List.take_succ_eq_append_getElem hj, List.map_append, List.sum_append]
        simp
      have hzl : sz us.length = o.parts4.flatten.length := by
        rw [hszd]
        simp only
        rw [hheld.1, List.take_length, List.length_flatten]
      have hzm : ∀ j, j ≤ us.length → sz j ≤ 800 := by
        intro j hj
        have h1 := (parts4_len o).2.2
        have h2 : ∀ a b, a ≤ b → b ≤ us.length → sz a ≤ sz b := by
          intro a b hab
          induction b with
          | zero => intro _; obtain rfl : a = 0 := by omega
                    exact Nat.le_refl _
          | succ b ih =>
            intro hb
            by_cases e : a = b + 1
            · rw [e]; exact Nat.le_refl _
            · have := ih (by omega) (by omega)
              have := hzs b (by have := hheld.1; omega)
              omega
        have := h2 j us.length hj (Nat.le_refl _)
        omega
      have ZZ := Lib.hid (And.intro hz0 (And.intro hzs (And.intro hzl hzm)))
      clear hrow hheld hszd hz0 hzs hzl hzm F7
      go_wp2_with fail
      go_loopg [12, 47] us.length (fun q s i wq => ∃ j : Nat, q = us.length - j ∧ j ≤ us.length ∧ i = .int .i64 j ∧ s = .int .i64 (sz j) ∧ wq = w7)
      case atStart => exact ⟨0, rfl, by omega, rfl, by rw [ZZ.out.1]; rfl, rfl⟩
      case round =>
        obtain ⟨j, rfl, hj, rfl, rfl, rfl⟩ := hrel
        by_cases hlj : j < us.length
        · obtain ⟨bb, ob, rfl, hcell⟩ := Reads.one RU.out (j := j) (by simpa using hlj)
          have hjp : j < o.parts4.length := by rw [← RH.out.1]; exact hlj
          have hr := RH.out.2 j us[j] o.parts4[j] (List.getElem?_eq_getElem hlj) (List.getElem?_eq_getElem hjp)
          obtain ⟨uj, huj⟩ : ∃ u, u = us[j] := ⟨_, rfl⟩
          rw [← huj] at hr hcell
          obtain ⟨qj, nj, cj, rfl⟩ := own_form hr
          obtain rfl : nj = o.parts4[j].length := own_len hr
          have hsn := ZZ.out.2.1 j hjp
          have hsm := ZZ.out.2.2.2 (j + 1) (by omega)
          obtain ⟨Lj, hLj⟩ : ∃ L, L = o.parts4[j].length := ⟨_, rfl⟩
          rw [← hLj] at hsn hcell
          obtain ⟨s0, hs0⟩ : ∃ s0, s0 = sz j := ⟨_, rfl⟩
          rw [← hs0] at hsn ⊢
          have SN := Lib.hid hsn
          have hsL : s0 + Lj ≤ 800 := by omega
          clear hr huj hLj hs0 hsn hsm
          go_wp2_with fail
          go_roundg (us.length - (j + 1))
          case measure => omega
          case rel => exact ⟨j + 1, rfl, by omega, by go_num, by rw [SN.out]; go_num, rfl⟩
        · obtain rfl : j = us.length := by omega
          rw [ZZ.out.2.2.1]
          -- the check
          obtain ⟨w7, rfl⟩ : ∃ W : World, W = wr := ⟨_, rfl⟩
          obtain ⟨T, hT⟩ : ∃ T, T = o.parts4.flatten.length := ⟨_, rfl⟩
          rw [← hT]
          have hT8 : T ≤ 800 := by rw [hT]; exact (parts4_len o).2.2
          obtain ⟨U', hU'⟩ : ∃ U', U' = sizeS S' := ⟨_, rfl⟩
          obtain ⟨N, hN⟩ : ∃ N, N = S'.length := ⟨_, rfl⟩
          have hw := WY.out
          rw [← HU.out.1, ← hT, ← hU'] at hw
          have hfits : U' ≤ n ∧ N ≤ 16 ∧ ((z = 4 ∧ U' = U) ∨ (z = 8 ∧ U' = U ∧ (n < U + T ∨ N = 16)) ∨ (z = 0 ∧ U' = U + T)) := by
            rw [hN]
            have h16 := FITS.out.2
            rcases hw with ⟨h1, h2⟩ | ⟨h1, h2, h3⟩ | ⟨h1, h2, h3, h4⟩
            · have e : U' = U := by rw [hU', h2, HU.out.1]
              rw [h2]
              exact ⟨by omega, h16, .inl ⟨h1, e⟩⟩
            · have e : U' = U := by rw [hU', h2, HU.out.1]
              rw [h2]
              refine ⟨by omega, h16, .inr (.inl ⟨h1, e, ?_⟩)⟩
              rcases h3 with h3 | h3
              · left; omega
              · right; omega
            · exact ⟨by omega, h4 h16, .inr (.inr ⟨h1, h2⟩)⟩
          have UF7 : usedF F' = U' := by rw [D7.out.used, hU']; rfl
          have KU := Lib.hid (fun (W : World) (hb : Below w7.heap.size w7 W) => UF7 ▸ dkUsed W _ p m (-1) false n F' (D7.out.at_.below hb) (by rw [UF7]; omega))
          have KN := Lib.hid (show ∀ (W : World), Below w7.heap.size w7 W → Calls Try.prog 11 #[.pointer (some ⟨p, 0, none⟩)] W fun e w' => ∃ (q : Option Addr) (c : Nat), e = .returned (.slice q N c) ∧ Below W.heap.size W w' from by
            intro W hb
            refine (dkNames W _ p m (-1) false n F' (D7.out.at_.below hb) (by rw [D7.out.len, ← hN]; omega)).mono ?_
            rintro e w' ⟨v, ns, rfl, hp, hr, hb'⟩
            obtain ⟨q, m', c, rfl⟩ := own_form hr
            obtain rfl : m' = ns.length := own_len hr
            have e1 : ns.length = N := by rw [hp.length_eq, List.length_map, D7.out.len, hN]
            rw [e1]
            exact ⟨q, c, rfl, hb'⟩)
          have BW := Lib.hid (Below.refl w7.heap.size w7)
          have TT := Lib.hid hT
          have NN := Lib.hid (And.intro hU' hN)
          have FT2 := Lib.hid hfits
          clear hT hU' hN hw hfits UF7
          go_upto_region 18 with fail
          go_cut [104] (fun s wc => s = .bool false ∧ Below w7.heap.size w7 wc)
          case first =>
            obtain ⟨f1, f2, hc⟩ := FT2.out
            have g1 : ¬ n < U' := by omega
            have g1' : ¬ (n : Int) < (U' : Int) := by omega
            have g2 : ¬ 16 < N := by omega
            have g2' : ¬ (16 : Int) < (N : Int) := by omega
            rcases hc with ⟨rfl, rfl⟩ | ⟨rfl, rfl, h3⟩ | ⟨rfl, h3⟩
            · skip
              go_wp2_with (first
                | (go_at_call 9; refine (KU.out _ BW.out).mono ?_; rintro e wu ⟨rfl, hb⟩; have BW := Lib.hid (BW.out.trans (hb.mono BW.out.size)); clear hb)
                | (go_at_call 11; refine (KN.out _ BW.out).mono ?_; rintro e wn ⟨qn, cn, rfl, hb⟩; have BW := Lib.hid (BW.out.trans (hb.mono BW.out.size)); clear hb))
              go_meet
              exact ⟨by first | rfl | (simp <;> omega), BW.out⟩
            · by_cases h4 : U' + T ≤ n
              · have g3 : ¬ N < 16 := by omega
                have g3' : ¬ (N : Int) < 16 := by omega
                have h4' : (U' : Int) + T ≤ n := by omega
                clear h3
                go_wp2_with (first
                  | (go_at_call 9; refine (KU.out _ BW.out).mono ?_; rintro e wu ⟨rfl, hb⟩; have BW := Lib.hid (BW.out.trans (hb.mono BW.out.size)); clear hb)
                  | (go_at_call 11; refine (KN.out _ BW.out).mono ?_; rintro e wn ⟨qn, cn, rfl, hb⟩; have BW := Lib.hid (BW.out.trans (hb.mono BW.out.size)); clear hb))
                go_meet
                exact ⟨by first | rfl | (simp <;> omega), BW.out⟩
              · have h4' : ¬ (U' : Int) + T ≤ n := by omega
                clear h3
                go_wp2_with (first
                  | (go_at_call 9; refine (KU.out _ BW.out).mono ?_; rintro e wu ⟨rfl, hb⟩; have BW := Lib.hid (BW.out.trans (hb.mono BW.out.size)); clear hb)
                  | (go_at_call 11; refine (KN.out _ BW.out).mono ?_; rintro e wn ⟨qn, cn, rfl, hb⟩; have BW := Lib.hid (BW.out.trans (hb.mono BW.out.size)); clear hb))
                go_meet
                exact ⟨by first | rfl | (simp <;> omega), BW.out⟩
            · have h3' : (U' : Int) = (U : Int) + T := by omega
              have H3 := Lib.hid h3
              clear h3
              have eb : ((U : Int) + T == (U : Int) + T) = true := by simp
              go_wp2_with (first
                | (go_at_call 9; refine (KU.out _ BW.out).mono ?_; rintro e wu ⟨rfl, hb⟩; have BW := Lib.hid (BW.out.trans (hb.mono BW.out.size)); clear hb)
                | (go_at_call 11; refine (KN.out _ BW.out).mono ?_; rintro e wn ⟨qn, cn, rfl, hb⟩; have BW := Lib.hid (BW.out.trans (hb.mono BW.out.size)); clear hb))
              go_meet
              exact ⟨by first | rfl | (simp <;> omega), BW.out⟩
          case rest =>
          obtain ⟨rfl, hbc⟩ := hcut
          have lg6 : g < w6.heap.size := lt_of_cell X4
          have e0 := below_cells hbc ((World.cell?_of_block (a := ⟨g, 0, none⟩) (E7.out g (Nat.le_of_eq HG.out.symm) lg6)).trans (below_cells B6.out X.out.1))
          have e1 := below_cells hbc ((World.cell?_of_block (a := ⟨g, 1, none⟩) (E7.out g (Nat.le_of_eq HG.out.symm) lg6)).trans X1)
          have DC := Lib.hid (D7.out.below hbc)
          have hact := FT.out.act
          have ht4 : (o.act).tmod 4 = o.act % 4 := Int.tmod_eq_emod_of_nonneg hact.1
          have hw4 : IntKind.u8.wrap (o.act % 4) = o.act % 4 := by simp [IntKind.wrap, IntKind.signed, IntKind.bits] <;> omega
          have FF := Lib.hid (show sizeS S' ≤ n ∧ S'.length ≤ 16 from by rw [← NN.out.1, ← NN.out.2]; exact ⟨FT2.out.1, FT2.out.2.1⟩)
          have HK := Lib.hid (And.intro hlt hk)
          clear X1 X4 X4' lg6 hbc
          by_cases h0 : o.act % 4 = 0
          · obtain ⟨Wd, hWd⟩ : ∃ W, W = wc.alloc (.cells #[.string sN] 9) := ⟨_, rfl⟩
            have hbd : Below wc.heap.size wc Wd := by rw [hWd]; exact (Below.refl _ wc).alloc (Nat.le_refl _) _
            have hh : Wd.heap[wc.heap.size]? = some (.cells #[.string sN] 9 (0, 0)) := by rw [hWd]; exact heap_alloc_new _ _
            have hpl := DC.out.plt
            have hNa : ∀ W, Mod (fun j => j = p) Wd W → Strs W (.slice (some ⟨wc.heap.size, 0, none⟩) 1 1) [o.name.take 12] := by
              intro W hM
              have k0 := (hM.block wc.heap.size (lt_block hh) (by omega)).trans hh
              rw [HS.out.1] at k0
              exact lit_reads (us := [strV (o.name.take 12)]) k0 (by simp)
            have DD := Lib.hid (DC.out.below hbd)
            have cD := dkDrop Wd _ p m (-1) false n F' DD.out.at_ (by omega) _ [o.name.take 12] hNa
            rw [spend_free, DD.out.pl] at cD
            obtain ⟨S2, hS2⟩ : ∃ S2, S2 = (if (true && thereZ S' [o.name.take 12]) = true then dropS S' [o.name.take 12] else S') := ⟨_, rfl⟩
            obtain ⟨zd, hzd⟩ : ∃ zd : Int, zd = (if true = true then (if thereZ S' [o.name.take 12] = true then 0 else 6) else 9) := ⟨_, rfl⟩
            rw [← hS2, ← hzd] at cD
            have F2 := Lib.hid (show sizeS S2 ≤ n ∧ S2.length ≤ 16 from by
              have h1 : S2.Sublist S' := by
                rw [hS2]
                split
                · exact dropS_sub _ _
                · exact List.Sublist.refl _
              have h2 := sizeS_sub h1
              have h3 := FF.out
              omega)
            have CD := Lib.hid cD
            have HWd := Lib.hid hWd
            clear hWd hbd hh hpl hNa hS2 hzd cD
            go_wp2_with (go_at_call 12; rw [← HWd.out]; refine CD.out.mono ?_; rintro e w9 ⟨rfl, F9, hp, hD, hS⟩; have D9 := Lib.hid (DD.out.step hS hD hp); clear hp hD hS)
            go_roundg (l.length - (k + 1))
            case measure => have := HK.out; omega
            case rel => exact ⟨k + 1, F9, S2, rfl, by have := HK.out; omega, by go_num, D9.out, F2.out⟩
          · go_wp2_with fail
            go_roundg (l.length - (k + 1))
            case measure => have := HK.out; omega
            case rel => exact ⟨k + 1, F', S', rfl, by have := HK.out; omega, by go_num, DC.out, FF.out⟩
    · obtain rfl : k = l.length := by omega
      have PA := Lib.hid hD.old
      clear hD
      go_wp2_with fail
      go_ret
      exact ⟨rfl, PA.out⟩

end Go.Proofs.Ytdcgooleiefljaa
