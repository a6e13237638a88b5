/-
  disk's law: DiskPower.
-/
import Derived.Test.YtdcgooleiefljaaJ27
import Derived.Deep.CutBlock
namespace Go.Proofs.Ytdcgooleiefljaa
open Go.RowKit Go.ChangeMaps Go.Shelf


set_option maxRecDepth 100000 in
set_option maxHeartbeats 16000000 in
theorem diskPower (a : Int) (l : List Od) (v : Value) (w : World) (ha : 0 ≤ a ∧ a ≤ 255) (hl : ScriptD w v l) (hf : ∀ r ∈ l, r.Fits) :
    Calls Try.prog 5 #[.int .u8 a, v] w fun e w' => e = .returned (.bool true) ∧ Below w.heap.size w w' := by
  obtain ⟨pv, cv, rfl, hll, hlc, -⟩ := id hl
  have SC := Lib.hid hl
  have FI := Lib.hid hf
  have hL : l.length ≤ 9223372036854775807 := by omega
  obtain ⟨N, hn⟩ : ∃ N : Nat, (N : Int) = a % 12 := ⟨(a % 12).toNat, by omega⟩
  have hn8 : N < 12 := by omega
  have ht : a.tmod 12 = N := by rw [Int.tmod_eq_emod_of_nonneg ha.1, hn]
  have hw1 : IntKind.u8.wrap (N : Int) = N := by simp [IntKind.wrap, IntKind.signed, IntKind.bits] <;> omega
  have hw2 : IntKind.i64.wrap (N : Int) = N := by simp [IntKind.wrap, IntKind.signed, IntKind.bits] <;> omega
  clear hl hf hll hlc hn ha
  go_enter Try.func5, Try.ntmps5
  go_wp2_with (go_at_call 6; refine (dkAwake w).mono ?_; rintro e w1 ⟨rfl, hb1⟩; have B1 := Lib.hid hb1; clear hb1)
  go_wp2_with (go_at_call 7; refine (dkNew w1 5000 (by omega)).mono ?_; rintro e w2 ⟨p, m, rfl, hD, hb2⟩; have D2 := Lib.hid (show DS w w2 w1.heap.size p m (-1) false 5000 [] [] from ⟨hD, rfl, B1.out.size, B1.out.trans (hb2.mono B1.out.size)⟩); clear hD hb2)
  have cA := Lib.hid (dkArm w2 _ p m (-1) false 5000 [] D2.out.at_ N)
  go_wp2_with (go_at_call 20; refine cA.out.mono ?_; rintro e w3 ⟨rfl, hD, hM⟩; have D3 := Lib.hid (show DS w w3 w1.heap.size p m (lf N 0) (dn N 0) 5000 [] [] from (by (have h0 : max (N : Int) (-1) = lf N 0 := by (unfold lf; omega)); rw [h0] at hD; rw [show dn N 0 = false from by simp [dn]]; exact D2.out.step (DkStep.power p m _ hM) hD rfl)); clear hD hM)
  go_loopg [7, 28] l.length (fun q d i wr => ∃ (k : Nat) (F : List Fz) (S : List (List UInt8 × List UInt8 × Nat)), q = l.length - k ∧ k ≤ l.length ∧ k ≤ 30 ∧ d = .int .i64 k ∧ i = .int .i64 k ∧ DS w wr w1.heap.size p m (lf N k) (dn N k) 5000 F S ∧ sizeS S ≤ 5000 ∧ S.length ≤ 16)
  case atStart => exact ⟨0, [], [], rfl, by omega, by omega, rfl, rfl, D3.out, by simp [sizeS], by simp⟩
  case round =>
    obtain ⟨k, F, S, rfl, hk, hk30, rfl, rfl, hD, hS1, hS2⟩ := hrel
    by_cases hlt : k < l.length
    · have ST := Lib.hid hD
      have FITS := Lib.hid (And.intro hS1 hS2)
      clear hD
      obtain ⟨bs, os, vn, vp, vk, rfl, hc, hod⟩ := ScriptD.elem (SC.out.below ST.out.old) (i := k) hlt
      have FT := Lib.hid (FI.out l[k] (List.getElem_mem _))
      obtain ⟨o, ho⟩ : ∃ o, o = l[k] := ⟨_, rfl⟩
      rw [← ho] at hc hod FT
      have HO := Lib.hid ho
      clear ho
      obtain ⟨CS, hCS⟩ : ∃ CS, CS = o.cells vn vp vk := ⟨_, rfl⟩
      rw [← hCS] at hc
      have LEN : CS.length = 7 := by rw [hCS]; rfl
      have RA : wr.rangeAt bs (os + k * 7) CS := hc
      have SZ : (Try.prog.info? 33).map (·.size) = some CS.length := by rw [LEN]; kernel_rfl
      have SZ' : (Try.prog.info? 33).map (·.size) = some CS.toArray.size := by rw [List.size_toArray, LEN]; kernel_rfl
      have ONE : CS.toArray.all (·.oneCell') = true := by rw [hCS]; exact hod.one
      have hsz : (#[.int .u8 0, .string ⟨#[]⟩, .string ⟨#[]⟩, .slice none 0 0, .slice none 0 0, .int .i64 0, .slice none 0 0] : Array Value).size = CS.toArray.size := by rw [show CS.toArray.size = 7 by rw [List.size_toArray, LEN]]; rfl
      obtain ⟨Wa, hWa⟩ : ∃ Wa, Wa = (wr.alloc (.cells #[.int .u8 0, .string ⟨#[]⟩, .string ⟨#[]⟩, .slice none 0 0, .slice none 0 0, .int .i64 0, .slice none 0 0] 33)).setRow wr.heap.size CS.toArray := ⟨_, rfl⟩
      have ba : Below wr.heap.size wr Wa := by rw [hWa]; exact below_setRow ((Below.refl _ _).alloc (Nat.le_refl _) _) (Nat.le_refl _) _
      have ya : Wa.heap[wr.heap.size]? = some (.cells CS.toArray 33 (0, 0)) := by rw [hWa]; exact setRow_heap _ _ _ _ _ _ (heap_alloc_new _ _)
      have FW := Lib.hid (hCS ▸ few_call Wa o vn vp vk (hod.below ba) FT.out)
      have HWA := Lib.hid (And.intro hWa ba)
      obtain ⟨g, hg⟩ : ∃ g, g = wr.heap.size := ⟨_, rfl⟩
      have HG := Lib.hid hg
      clear hc hod hCS ba hWa
      go_upto_region 9 with (first | refine wpList_load_mid rfl 33 _ rfl bs (os + k * 7) (by rfl) CS _ RA Try.underlying33 rfl SZ ?_ | refine wpList_store_row rfl 33 _ _ rfl wr.heap.size CS.toArray (by rfl) (by rfl) 33 #[.int .u8 0, .string ⟨#[]⟩, .string ⟨#[]⟩, .slice none 0 0, .slice none 0 0, .int .i64 0, .slice none 0 0] (heap_alloc_new _ _) SZ' hsz ONE ?_)
      rw [← HWA.out.1, ← hg]
      rw [← hg] at ya
      clear SZ RA hsz hg
      by_cases h30 : k < 30
      rotate_left
      · have hkk' : (30 : Int) ≤ (k : Int) := by omega
        have PA := Lib.hid (ST.out.old.trans (HWA.out.2.mono ST.out.old.size))
        clear ONE SZ'
        have D8 := Lib.hid (ST.out.below HWA.out.2)
        have H8 := Lib.hid FITS.out
        have c8 := Lib.hid (dkCrash Wa _ p m _ _ 5000 F D8.out.at_ (by rw [D8.out.len]; have := H8.out; omega) (by rw [D8.out.used]; have := H8.out.1; unfold sizeS at this; omega) (.slice none 0 0) [] (fun W F' _ => ⟨by simp, none, 0, rfl, by simp, by simp, by simp, by simp⟩) (by simp))
        go_wp2_with (go_at_call 16; refine c8.out.mono ?_; rintro e w9 ⟨rfl, ns, F9, -, hp, hD, hS⟩; have D9 := Lib.hid (D8.out.step hS hD hp); have H9 := Lib.hid (show sizeS (crashS (F.map plain) ns [] ns.length) ≤ 5000 ∧ (crashS (F.map plain) ns [] ns.length).length ≤ 16 from by (have h1 := crashS_size ns [] (F.map plain) ns.length; have h2 := H8.out; rw [D8.out.pl] at h1 ⊢; omega)); clear hp hD hS)
        obtain ⟨S9, hS9⟩ : ∃ S9, S9 = crashS (F.map plain) ns [] ns.length := ⟨_, rfl⟩
        rw [← hS9] at D9 H9
        have hU9 : usedF F9 = sizeS S9 := D9.out.used
        have c9 := dkWrite w9 _ p m (-1) false 5000 F9 D9.out.at_ (by omega) [97] (.slice none 0 0) [] (fun W hM => ⟨[], ⟨rfl, none, 0, rfl, by simp, by simp, by simp, by simp⟩, by simp⟩) (by simp [Lib.lens]) (by simp) (by have := H9.out; omega)
        rw [spend_free, D9.out.pl, hU9] at c9
        have hwz := writeZ_a S9 D9.out.names H9.out
        obtain ⟨za, hza⟩ : ∃ za, za = (writeZ 5000 S9 (sizeS S9) [97] []).1 := ⟨_, rfl⟩
        obtain ⟨Sa, hSa⟩ : ∃ Sa, Sa = (writeZ 5000 S9 (sizeS S9) [97] []).2 := ⟨_, rfl⟩
        rw [← hza, ← hSa] at hwz
        simp only [if_true, List.flatten_nil, ← hza, ← hSa] at c9
        have C9 := Lib.hid c9
        have WZ := Lib.hid hwz
        clear hS9 hU9 c9 hwz hza hSa
        go_wp2_with (go_at_call 10; refine C9.out.mono ?_; rintro e w10 ⟨rfl, F10, hp, hD, hS⟩; have D10 := Lib.hid (D9.out.step hS hD hp); clear hp hD hS)
        have cU := Lib.hid (dkUp w10 _ p m _ false 5000 F10 D10.out.at_)
        rcases WZ.out with rfl | ⟨rfl, h16⟩
        · go_wp2_with (go_at_call 22; refine cU.out.mono ?_; rintro e w11 ⟨rfl, rfl⟩)
          go_ret
          exact ⟨rfl, D10.out.old⟩
        · have H10 := Lib.hid (show F10.length = 16 from by rw [D10.out.len, h16])
          have cN := Lib.hid (dkNames w10 _ p m _ false 5000 F10 D10.out.at_ (by rw [H10.out]; decide))
          clear h16
          go_wp2_with (first
            | (go_at_call 22; refine cU.out.mono ?_; rintro e w11 ⟨rfl, rfl⟩)
            | (go_at_call 11; refine cN.out.mono ?_; rintro e w12 ⟨v12, ns12, rfl, hp, hr, hb⟩; obtain ⟨q12, m12, k12, rfl⟩ := own_form hr; obtain rfl : m12 = ns12.length := own_len hr; have e12 : ns12.length = 16 := hp.length_eq.trans ((List.length_map _).trans H10.out); have B12 := Lib.hid hb; clear hp hr hb))
          go_ret
          exact ⟨by first | rfl | simp [e12], D10.out.old.trans (B12.out.mono D10.out.old.size)⟩
      have hkk : ¬ 30 ≤ k := by omega
      have hkk' : ¬ (30 : Int) ≤ (k : Int) := by omega
      go_wp2_with (refine wpList_load_row rfl 33 _ rfl g (by rfl) 33 CS.toArray (0, 0) _ ya Try.underlying33 rfl SZ' ?_)
      refine FW.out.mono ?_
      rintro e w4 ⟨vn4, vp4, vk4, rfl, hF4, hb4⟩
      obtain ⟨OC, hOC⟩ : ∃ OC : Array Value, OC = #[.int .u8 o.act, strV (o.name.take 12), strV (o.nto.take 12), vn4, vp4, .int .i64 o.n, vk4] := ⟨_, rfl⟩
      rw [← hOC]
      have y4 : w4.heap[g]? = some (.cells CS.toArray 33 (0, 0)) := (hb4.block g (lt_block ya)).trans ya
      have OSZ : (Try.prog.info? 33).map (·.size) = some OC.size := by rw [hOC]; kernel_rfl
      have hmz : CS.toArray.size = OC.size := by rw [hOC, List.size_toArray, LEN]; rfl
      obtain ⟨pn4, nn4, cn4, rfl⟩ := own_form hF4.names
      obtain ⟨pp4, np4, cp4, rfl⟩ := own_form hF4.parts.choose_spec.1
      obtain ⟨pk4, nk4, ck4, rfl⟩ := own_form hF4.keep
      have OONE : OC.all (·.oneCell') = true := by rw [hOC]; simp [Value.oneCell', strV]
      obtain ⟨W5, hW5⟩ : ∃ W5, W5 = w4.setRow g OC := ⟨_, rfl⟩
      have y5 : W5.heap[g]? = some (.cells OC 33 (0, 0)) := by rw [hW5]; exact setRow_heap _ _ _ _ _ _ y4
      have hga : g < Wa.heap.size := lt_block ya
      have b5 : Below wr.heap.size wr W5 := by
        rw [hW5]
        exact below_setRow (HWA.out.2.trans (hb4.mono HWA.out.2.size)) (by rw [HG.out]; exact Nat.le_refl _) _
      have F5 : FewV Wa.heap.size W5 o (.slice pn4 nn4 cn4) (.slice pp4 np4 cp4) (.slice pk4 nk4 ck4) := hF4.agree fun j h1 _ => by rw [hW5]; exact setRow_other _ _ _ _ (by omega)
      have D5 := Lib.hid (ST.out.below b5)
      obtain ⟨sN, hsN⟩ : ∃ sN : ByteArray, sN = ⟨(o.name.take 12).toArray⟩ := ⟨_, rfl⟩
      obtain ⟨sT, hsT⟩ : ∃ sT : ByteArray, sT = ⟨(o.nto.take 12).toArray⟩ := ⟨_, rfl⟩
      have HS := Lib.hid (And.intro (show Value.string sN = strV (o.name.take 12) from by rw [hsN]; rfl) (show Value.string sT = strV (o.nto.take 12) from by rw [hsT]; rfl))
      clear hsN hsT
      rw [← HS.out.1, ← HS.out.2] at hOC
      have G5 := Lib.hid (And.intro y5 (And.intro b5 F5))
      have x0 : W5.cell? ⟨g, 0, none⟩ = some (.int .u8 o.act) := by rw [cellsG y5 0, hOC]; rfl
      have x1 : W5.cell? ⟨g, 1, none⟩ = some (.string sN) := by rw [cellsG y5 1, hOC]; rfl
      have x2 : W5.cell? ⟨g, 2, none⟩ = some (.string sT) := by rw [cellsG y5 2, hOC]; rfl
      have x3 : W5.cell? ⟨g, 3, none⟩ = some (.slice pn4 nn4 cn4) := by rw [cellsG y5 3, hOC]; rfl
      have x4 : W5.cell? ⟨g, 4, none⟩ = some (.slice pp4 np4 cp4) := by rw [cellsG y5 4, hOC]; rfl
      have x5 : W5.cell? ⟨g, 5, none⟩ = some (.int .i64 o.n) := by rw [cellsG y5 5, hOC]; rfl
      have X := Lib.hid (And.intro x0 (And.intro x1 (And.intro x2 (And.intro x3 (And.intro x4 x5)))))
      have HW5 := Lib.hid hW5
      have GA := Lib.hid hga
      clear y5 b5 F5 hF4 hb4 hOC hW5 x0 x1 x2 x3 x4 x5 ya hga FW LEN ONE SZ'
      go_upto_region 11 with (refine wpList_store_row rfl 33 _ _ rfl g OC (by rfl) (by rfl) 33 CS.toArray y4 OSZ hmz OONE ?_)
      rw [← HW5.out]
      clear OSZ hmz OONE y4
      have hN12 : N ≤ 12 := by omega
      have hUF : usedF F = sizeS S := D5.out.used
      obtain ⟨U, hU⟩ : ∃ U, U = sizeS S := ⟨_, rfl⟩
      obtain ⟨M, hM⟩ : ∃ M, M = S.length := ⟨_, rfl⟩
      have hFL : F.length = M := by rw [D5.out.len, hM]
      rw [← hU] at hUF
      have HU := Lib.hid (And.intro hU (And.intro hM (And.intro hUF hFL)))
      have cU := dkUsed W5 _ p m _ _ 5000 F D5.out.at_ (by rw [hUF, hU]; have := FITS.out.1; omega)
      rw [hUF] at cU
      have CU := Lib.hid cU
      have KN := Lib.hid (show ∀ (W : World), Below W5.heap.size W5 W → Calls Try.prog 11 #[.pointer (some ⟨p, 0, none⟩)] W fun e w' => ∃ (q : Option Addr) (c : Nat), e = .returned (.slice q M c) ∧ Below W.heap.size W w' from by
        intro W hb
        refine (dkNames W _ p m _ _ 5000 F (D5.out.at_.below hb) (by rw [hFL, hM]; have := FITS.out.2; omega)).mono ?_
        rintro e w' ⟨v, ns, rfl, hp, hr, hb'⟩
        obtain ⟨q, m', c, rfl⟩ := own_form hr
        obtain rfl : m' = ns.length := own_len hr
        have e1 : ns.length = M := by rw [hp.length_eq, List.length_map, hFL]
        rw [e1]
        exact ⟨q, c, rfl, hb'⟩)
      clear hU hM hUF hFL cU
      have hact := FT.out.act
      obtain ⟨r, hr⟩ : ∃ r : Int, r = o.act % 5 := ⟨_, rfl⟩
      have hr5 : 0 ≤ r ∧ r < 5 := by omega
      have ht5 : o.act.tmod 5 = r := by rw [Int.tmod_eq_emod_of_nonneg hact.1, hr]
      have hw5 : IntKind.u8.wrap r = r := by simp [IntKind.wrap, IntKind.signed, IntKind.bits] <;> omega
      clear hr hact
      go_upto_block 2 with (first
        | (go_at_call 9; refine CU.out.mono ?_; rintro e w6 ⟨rfl, hb⟩; have B6 := Lib.hid hb; clear hb)
        | (go_at_call 11; refine (KN.out _ B6.out).mono ?_; rintro e w7 ⟨qn, cn, rfl, hb⟩; have B7 := Lib.hid (B6.out.trans (hb.mono B6.out.size)); have x0 := below_cells B7.out X.out.1; have x1 := below_cells B7.out X.out.2.1; have x2 := below_cells B7.out X.out.2.2.1; have x3 := below_cells B7.out X.out.2.2.2.1; have x4 := below_cells B7.out X.out.2.2.2.2.1; have x5 := below_cells B7.out X.out.2.2.2.2.2; clear hb))
      have D7 := Lib.hid (D5.out.below B7.out)
      have hpB : p < Wa.heap.size := by have h1 := ST.out.plt; have h2 := HWA.out.2.size; omega
      have F7 := Lib.hid (fun (W : World) (hM : Mod (fun j => j = p) w7 W) => (G5.out.2.2.agree fun j _ hj => B7.out.block j hj).agree (w' := W) fun j h1 h2 => hM.block j h2 (by omega))
      clear hpB
      go_cut [12] (fun s wc => ∃ (z : Int) (F' : List Fz), s = .int .i64 z ∧ (z = 9 ↔ ¬ k < N) ∧ (¬ k < N → F'.map plain = S) ∧ (usedF F' ≤ 5000 ∧ F'.length ≤ 16) ∧ DkAt wc w1.heap.size p m (lf N (k + 1)) (dn N (k + 1)) 5000 F' ∧ DkStep w7 wc p m F F')
      case first =>
        have hcases : r = 0 ∨ r = 1 ∨ r = 2 ∨ r = 3 ∨ r = 4 := by omega
        clear hr5
        rcases hcases with rfl | rfl | rfl | rfl | rfl
        · have c := Lib.hid (pwFirm D7.out hN12 FITS.out (.slice pn4 nn4 cn4) o.names4 (fun W hM => (F7.out W hM).strs))
          go_wp2_with (go_at_call 14; refine c.out.mono ?_; rintro e w8 ⟨z, rfl, hz⟩; have HZ := Lib.hid hz; clear hz)
          go_meet
          exact ⟨z, HZ.out.2.choose, rfl, HZ.out.1, HZ.out.2.choose_spec⟩
        · have c := pwSwap D7.out hN12 FITS.out (o.name.take 12) (o.nto.take 12)
          rw [← HS.out.1, ← HS.out.2] at c
          go_wp2_with (go_at_call 15; refine c.mono ?_; rintro e w8 ⟨z, rfl, hz⟩; have HZ := Lib.hid hz; clear hz)
          go_meet
          exact ⟨z, HZ.out.2.choose, rfl, HZ.out.1, HZ.out.2.choose_spec⟩
        · have c := pwTrim D7.out hN12 FITS.out (o.name.take 12) o.n
          rw [← HS.out.1] at c
          go_wp2_with (go_at_call 21; refine c.mono ?_; rintro e w8 ⟨z, rfl, hz⟩; have HZ := Lib.hid hz; clear hz)
          go_meet
          exact ⟨z, HZ.out.2.choose, rfl, HZ.out.1, HZ.out.2.choose_spec⟩
        · have c := Lib.hid (pwDrop D7.out hN12 FITS.out (.slice pn4 nn4 cn4) o.names4 (fun W hM => (F7.out W hM).strs))
          go_wp2_with (go_at_call 12; refine c.out.mono ?_; rintro e w8 ⟨z, rfl, hz⟩; have HZ := Lib.hid hz; clear hz)
          go_meet
          exact ⟨z, HZ.out.2.choose, rfl, HZ.out.1, HZ.out.2.choose_spec⟩
        · have c := pwWrite D7.out hN12 FITS.out (o.name.take 12) (.slice pp4 np4 cp4) o.parts4 (fun W hM => (F7.out W hM).partsAt) (by have := (parts4_len o).2.1; omega) (by have := (parts4_len o).1; omega)
          rw [← HS.out.1] at c
          go_wp2_with (go_at_call 10; refine c.mono ?_; rintro e w8 ⟨z, rfl, hz⟩; have HZ := Lib.hid hz; clear hz)
          go_meet
          exact ⟨z, HZ.out.2.choose, rfl, HZ.out.1, HZ.out.2.choose_spec⟩
      case rest =>
      obtain ⟨z, F', rfl, hz9, hsame, hfit, hD, hSt⟩ := hcut
      have D8 := Lib.hid (D7.out.step hSt hD rfl)
      have hUF := Lib.hid (show ¬ k < N → usedF F' = U ∧ F'.length = M from fun h => by
        have h1 := hsame h
        have h2 : F'.length = (F'.map plain).length := by simp
        rw [h2, used_size, h1]
        exact ⟨HU.out.1.symm, HU.out.2.1.symm⟩)
      have FF := Lib.hid (show sizeS (F'.map plain) ≤ 5000 ∧ (F'.map plain).length ≤ 16 from by rw [← used_size]; simpa using hfit)
      have HK := Lib.hid (And.intro hlt hk)
      have cUp := Lib.hid (dkUp wc _ p m _ _ 5000 F' D8.out.at_)
      have BW := Lib.hid (Below.refl wc.heap.size wc)
      clear hsame hfit hD hSt x0 x1 x2 x3 x4 x5 hr5 ht5 hw5
      by_cases hkN : k < N
      · have g1 : ¬ N ≤ k := by omega
        have g1' : ¬ (N : Int) ≤ (k : Int) := by omega
        have hz9' : ¬ z = 9 := fun e => hz9.1 e hkN
        have cUp' := cUp.out
        rw [show dn N (k + 1) = false from by simp [dn]; omega] at cUp'
        clear hz9 hkN
        go_wp2_with (go_at_call 22; refine cUp'.mono ?_; rintro e w11 ⟨rfl, rfl⟩)
        go_roundg (l.length - (k + 1))
        case measure => have := HK.out; omega
        case rel => exact ⟨k + 1, F', F'.map plain, rfl, by have := HK.out; omega, by omega, by go_num, by go_num, D8.out, FF.out⟩
      · have g1 : N ≤ k := by omega
        have g1' : (N : Int) ≤ (k : Int) := by omega
        obtain rfl : z = 9 := hz9.2 hkN
        obtain ⟨hu1, hu2⟩ := hUF.out hkN
        have cUp' := cUp.out
        rw [show dn N (k + 1) = true from by simp [dn]; omega] at cUp'
        have cUs := dkUsed wc _ p m _ _ 5000 F' D8.out.at_ (by rw [hu1, HU.out.1]; have := FITS.out.1; omega)
        rw [hu1] at cUs
        have CUS := Lib.hid cUs
        have KN8 := Lib.hid (show ∀ (W : World), Below wc.heap.size wc W → Calls Try.prog 11 #[.pointer (some ⟨p, 0, none⟩)] W fun e w' => ∃ (q : Option Addr) (c : Nat), e = .returned (.slice q M c) ∧ Below W.heap.size W w' from by
          intro W hb
          refine (dkNames W _ p m _ _ 5000 F' (D8.out.at_.below hb) (by rw [hu2, HU.out.2.1]; have := FITS.out.2; omega)).mono ?_
          rintro e w' ⟨v, ns, rfl, hp, hr, hb'⟩
          obtain ⟨q, m', c, rfl⟩ := own_form hr
          obtain rfl : m' = ns.length := own_len hr
          have e1 : ns.length = M := by rw [hp.length_eq, List.length_map, hu2]
          rw [e1]
          exact ⟨q, c, rfl, hb'⟩)
        clear hz9 hkN hu1 hu2 cUs
        go_wp2_with (first
          | (go_at_call 22; refine cUp'.mono ?_; rintro e w11 ⟨rfl, rfl⟩)
          | (go_at_call 9; refine CUS.out.mono ?_; rintro e wu ⟨rfl, hb⟩; have BU := Lib.hid hb; clear hb)
          | (go_at_call 11; refine (KN8.out _ BU.out).mono ?_; rintro e wn ⟨qn, cn, rfl, hb⟩; have BN := Lib.hid (BU.out.trans (hb.mono BU.out.size)); clear hb))
        go_roundg (l.length - (k + 1))
        case measure => have := HK.out; omega
        case rel => exact ⟨k + 1, F', F'.map plain, rfl, by have := HK.out; omega, by omega, by go_num, by go_num, D8.out.below BN.out, FF.out⟩
    · obtain rfl : k = l.length := by omega
      have D8 := Lib.hid hD
      have H8 := Lib.hid (And.intro hS1 hS2)
      have c8 := Lib.hid (dkCrash wr _ p m _ _ 5000 F D8.out.at_ (by rw [D8.out.len]; have := H8.out; omega) (by rw [D8.out.used]; have := H8.out.1; unfold sizeS at this; omega) (.slice none 0 0) [] (fun W F' _ => ⟨by simp, none, 0, rfl, by simp, by simp, by simp, by simp⟩) (by simp))
      go_wp2_with (go_at_call 16; refine c8.out.mono ?_; rintro e w9 ⟨rfl, ns, F9, -, hp, hD, hS⟩; have D9 := Lib.hid (D8.out.step hS hD hp); have H9 := Lib.hid (show sizeS (crashS (F.map plain) ns [] ns.length) ≤ 5000 ∧ (crashS (F.map plain) ns [] ns.length).length ≤ 16 from by (have h1 := crashS_size ns [] (F.map plain) ns.length; have h2 := H8.out; rw [D8.out.pl] at h1 ⊢; omega)); clear hp hD hS)
      obtain ⟨S9, hS9⟩ : ∃ S9, S9 = crashS (F.map plain) ns [] ns.length := ⟨_, rfl⟩
      rw [← hS9] at D9 H9
      have hU9 : usedF F9 = sizeS S9 := D9.out.used
      have c9 := dkWrite w9 _ p m (-1) false 5000 F9 D9.out.at_ (by omega) [97] (.slice none 0 0) [] (fun W hM => ⟨[], ⟨rfl, none, 0, rfl, by simp, by simp, by simp, by simp⟩, by simp⟩) (by simp [Lib.lens]) (by simp) (by have := H9.out; omega)
      rw [spend_free, D9.out.pl, hU9] at c9
      have hwz := writeZ_a S9 D9.out.names H9.out
      obtain ⟨za, hza⟩ : ∃ za, za = (writeZ 5000 S9 (sizeS S9) [97] []).1 := ⟨_, rfl⟩
      obtain ⟨Sa, hSa⟩ : ∃ Sa, Sa = (writeZ 5000 S9 (sizeS S9) [97] []).2 := ⟨_, rfl⟩
      rw [← hza, ← hSa] at hwz
      simp only [if_true, List.flatten_nil, ← hza, ← hSa] at c9
      have C9 := Lib.hid c9
      have WZ := Lib.hid hwz
      clear hS9 hU9 c9 hwz hza hSa
      go_wp2_with (go_at_call 10; refine C9.out.mono ?_; rintro e w10 ⟨rfl, F10, hp, hD, hS⟩; have D10 := Lib.hid (D9.out.step hS hD hp); clear hp hD hS)
      have cU := Lib.hid (dkUp w10 _ p m _ false 5000 F10 D10.out.at_)
      rcases WZ.out with rfl | ⟨rfl, h16⟩
      · go_wp2_with (go_at_call 22; refine cU.out.mono ?_; rintro e w11 ⟨rfl, rfl⟩)
        go_ret
        exact ⟨rfl, D10.out.old⟩
      · have H10 := Lib.hid (show F10.length = 16 from by rw [D10.out.len, h16])
        have cN := Lib.hid (dkNames w10 _ p m _ false 5000 F10 D10.out.at_ (by rw [H10.out]; decide))
        clear h16
        go_wp2_with (first
          | (go_at_call 22; refine cU.out.mono ?_; rintro e w11 ⟨rfl, rfl⟩)
          | (go_at_call 11; refine cN.out.mono ?_; rintro e w12 ⟨v12, ns12, rfl, hp, hr, hb⟩; obtain ⟨q12, m12, k12, rfl⟩ := own_form hr; obtain rfl : m12 = ns12.length := own_len hr; have e12 : ns12.length = 16 := hp.length_eq.trans ((List.length_map _).trans H10.out); have B12 := Lib.hid hb; clear hp hr hb))
        go_ret
        exact ⟨by first | rfl | simp [e12], D10.out.old.trans (B12.out.mono D10.out.old.size)⟩

end Go.Proofs.Ytdcgooleiefljaa
