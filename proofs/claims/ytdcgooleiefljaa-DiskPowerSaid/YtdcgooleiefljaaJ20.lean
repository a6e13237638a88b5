/-
  disk: Crash.
-/
import Derived.Test.YtdcgooleiefljaaJ15
namespace Go.Proofs.Ytdcgooleiefljaa
open Go.RowKit Go.ChangeMaps Go.Shelf

/-- what a round of a crash does to a file -/
theorem DkAt.crashed {w : World} {B p m : Nat} {left : Int} {down : Bool} {room : Int} {F1 F2 : List Fz} {f : Fz} (h : DkAt w B p m left down room (F1 ++ f :: F2)) {q : Option Addr} {c : Nat} (hv : f.v = .slice q f.bytes.length c) (kp : Int) (L : Nat) (hL : L = crashK kp (plain f)) :
    DkAt ((w.setCell ⟨f.blk, 0, none⟩ (.slice q L c)).setCell ⟨f.blk, 1, none⟩ (.int .i64 L)) B p m left down room (F1 ++ cutTo f (.slice q L c) L L :: F2) ∧
      DkStep w ((w.setCell ⟨f.blk, 0, none⟩ (.slice q L c)).setCell ⟨f.blk, 1, none⟩ (.int .i64 L)) p m (F1 ++ f :: F2) (F1 ++ cutTo f (.slice q L c) L L :: F2) ∧
      (F1 ++ cutTo f (.slice q L c) L L :: F2).map plain = ((F1 ++ f :: F2).map plain).map (crash1 f.name kp) := by
  have hk := crashK_le kp (plain f) (h.firm f (by simp))
  rw [← hL] at hk
  obtain ⟨h1, h2⟩ := h.cut hv L L hk.2 (Nat.le_refl _)
  refine ⟨h1, h2, map_mid _ h.names (fun s hs => by simp [crash1, hs]) ?_⟩
  simp only [crash1, plain, cutTo, if_true]
  rw [hL]
  rfl


set_option maxHeartbeats 4000000 in
set_option maxRecDepth 100000 in
theorem dkCrash (w : World) (B p m : Nat) (left : Int) (down : Bool) (room : Int) (F : List Fz) (h : DkAt w B p m left down room F) (hF : F.length ≤ 1000000) (hu : usedF F ≤ 1000000000) (kv : Value) (keep : List Int) (hk : ∀ W F', DkStep w W p m F F' → Nums W .i64 kv keep) (hkr : ∀ x ∈ keep, -9223372036854775808 ≤ x ∧ x ≤ 9223372036854775807) :
    Calls Try.prog 16 #[.pointer (some ⟨p, 0, none⟩), kv] w fun e w' => e = .returned (.tuple #[]) ∧ ∃ (ns : List (List UInt8)) (F' : List Fz), ns.Perm (F.map (·.name)) ∧ F'.map plain = crashS (F.map plain) ns keep ns.length ∧ DkAt w' B p m (-1) false room F' ∧ DkStep w w' p m F F' := by
  have cN := dkNames w B p m left down room F h hF
  obtain ⟨kp, kc, rfl, hkl, hkc, -, -⟩ := (hk w F (DkStep.refl _ _ _ _)).slice
  have hkL : keep.length ≤ 9223372036854775807 := by omega
  have KR := Lib.hid hkr
  have H := Lib.hid h
  have U := Lib.hid hu
  clear h hkr hkl hkc hF hu
  go_enter Try.func16, Try.ntmps16
  go_wp2_with (go_at_call 11; refine cN.mono ?_; rintro e w1 ⟨v1, ns, rfl, hp, hrow, hb⟩; obtain ⟨q1, n1, c1, rfl⟩ := own_form hrow; obtain rfl : n1 = ns.length := own_len hrow; have N1 := Lib.hid (And.intro hp (And.intro hrow hb)); have hnl := own_short hrow; clear hp hrow hb)
  obtain ⟨k, hkn⟩ : ∃ k, k = ns.length := ⟨_, rfl⟩
  rw [← hkn] at hnl ⊢
  have HK := Lib.hid hkn
  clear hkn
  go_loopg [4, 5, 6, 7, 13] k (fun q _ _ _ _ i wr => ∃ (j : Nat) (Fj : List Fz), q = k - j ∧ j ≤ k ∧ i = .int .i64 j ∧ Fj.map plain = crashS (F.map plain) ns keep j ∧ Fj.map (·.name) = F.map (·.name) ∧ (∀ f ∈ Fj, f.bytes.length ≤ 1000000000) ∧ DkAt wr B p m left down room Fj ∧ DkStep w wr p m F Fj ∧ wr.ownsRow w.heap.size 9 1 (.slice q1 k c1) k (ns.map strV))
  case atStart =>
    refine ⟨0, F, rfl, by omega, rfl, rfl, rfl, fun f hf => ?_, H.out.below N1.out.2.2, DkStep.below p m F N1.out.2.2, ?_⟩
    · obtain ⟨F1, F2, rfl⟩ := List.append_of_mem hf
      have h1 := usedF_mid F1 F2 f
      have h2 := U.out
      omega
    · have := N1.out.2.1
      rw [← HK.out] at this
      exact this
  case round =>
    obtain ⟨j, Fj, rfl, hj, rfl, hpl, hnm, hbd, hD, hS, hrow⟩ := hrel
    by_cases hlt : j < k
    · have hlt' : j < ns.length := by have := HK.out; omega
      obtain ⟨g, cap', hve, -, hgl⟩ := hrow.form (by omega)
      obtain ⟨rfl, -, rfl⟩ := Value.slice.inj hve
      have hcell : wr.cell? ⟨g, j, none⟩ = some (strV ns[j]) := by rw [World.ownsRow.cellAt hrow j (by omega), List.getElem?_map, List.getElem?_eq_getElem hlt']; rfl
      obtain ⟨x, hx⟩ : ∃ x, x = ns[j] := ⟨_, rfl⟩
      rw [← hx] at hcell
      have hin : inF Fj x = true := by
        rw [inF_names hnm, hx]
        have h1 : ns[j] ∈ F.map (·.name) := N1.out.1.subset (List.getElem_mem hlt')
        obtain ⟨f, hf, he⟩ := List.mem_map.1 h1
        simp only [inF, List.any_eq_true, decide_eq_true_eq]
        exact ⟨f, hf, he⟩
      obtain ⟨F1, f, F2, rfl, rfl⟩ := in_split hin
      have hf : f ∈ F1 ++ f :: F2 := by simp
      have L0 := hD.look f.name
      rw [hD.look_mid] at L0
      have c3 : wr.cell? ⟨p, 3, none⟩ = some (.map (some m)) := by simp [World.cell?, hD.cell]
      obtain ⟨pf, nf, cf, hfv⟩ := own_form (hD.row f hf)
      have hfr := hD.row f hf
      rw [hfv] at hfr
      obtain rfl : nf = f.bytes.length := own_len hfr
      have hcap := own_cap hfr
      have hlen := hbd f hf
      have hfi := hD.firm f hf
      obtain ⟨kz, hkz⟩ : ∃ kz, kz = keep.getD j 0 := ⟨_, rfl⟩
      obtain ⟨L, hL⟩ : ∃ L, L = crashK kz (plain f) := ⟨_, rfl⟩
      -- what the round leaves, in any world that is as this one was
      have key : ∀ W, Below wr.heap.size wr W → (F1 ++ cutTo f (.slice pf L cf) L L :: F2).map plain = crashS (F.map plain) ns keep (j + 1) ∧ (F1 ++ cutTo f (.slice pf L cf) L L :: F2).map (·.name) = F.map (·.name) ∧ (∀ f' ∈ F1 ++ cutTo f (.slice pf L cf) L L :: F2, f'.bytes.length ≤ 1000000000) ∧
          DkAt ((W.setCell ⟨f.blk, 0, none⟩ (.slice pf L cf)).setCell ⟨f.blk, 1, none⟩ (.int .i64 L)) B p m left down room (F1 ++ cutTo f (.slice pf L cf) L L :: F2) ∧ DkStep w ((W.setCell ⟨f.blk, 0, none⟩ (.slice pf L cf)).setCell ⟨f.blk, 1, none⟩ (.int .i64 L)) p m F (F1 ++ cutTo f (.slice pf L cf) L L :: F2) ∧
          ((W.setCell ⟨f.blk, 0, none⟩ (.slice pf L cf)).setCell ⟨f.blk, 1, none⟩ (.int .i64 L)).ownsRow w.heap.size 9 1 (.slice (some ⟨g, 0, none⟩) k c1) k (ns.map strV) := by
        intro W hW
        have hDW := hD.below hW
        obtain ⟨h1, h2, h3⟩ := hDW.crashed hfv kz L hL
        refine ⟨?_, by rw [← hnm]; simp [cutTo], fun f' hf' => ?_, h1, (hS.trans (DkStep.below p m _ hW)).trans h2, ?_⟩
        · rw [h3, hpl, crashS, ← hkz]
          congr 2
          rw [hx]
          simp [List.getD, List.getElem?_eq_getElem hlt']
        · rcases List.mem_append.1 hf' with hf' | hf'
          · exact hbd f' (by simp [hf'])
          · rcases List.mem_cons.1 hf' with rfl | hf'
            · simp only [cutTo, List.length_take]; omega
            · exact hbd f' (by simp [hf'])
        · refine own_agree (own_below hrow hW) fun b hb => ?_
          have hne : b ≠ f.blk := fun e => absurd ((own_ty (own_below hrow hW) hb).ne ⟨_, _, e ▸ hDW.file f hf⟩) (by decide)
          simp [World.setCell, Array.getElem?_modify, Ne.symm hne]
      obtain ⟨n, hn⟩ : ∃ n, n = f.bytes.length := ⟨_, rfl⟩
      obtain ⟨fi, hfe⟩ : ∃ fi, fi = f.firm := ⟨_, rfl⟩
      obtain ⟨fb, hfb⟩ : ∃ fb, fb = f.blk := ⟨_, rfl⟩
      obtain ⟨xn, hxn⟩ : ∃ xn, xn = f.name := ⟨_, rfl⟩
      have f0 : wr.cell? ⟨fb, 0, none⟩ = some (.slice pf n cf) := by rw [hfb]; simp [World.cell?, hD.file f hf, hfv, hn]
      have f1 : wr.cell? ⟨fb, 1, none⟩ = some (.int .i64 fi) := by rw [hfb]; simp [World.cell?, hD.file f hf, hfe]
      have fz0 : wr.frozen? ⟨fb, 0, none⟩ = false := by rw [hfb]; simp [World.frozen?, hD.file f hf]
      have fz1 : wr.frozen? ⟨fb, 1, none⟩ = false := by rw [hfb]; simp [World.frozen?, hD.file f hf]
      have ff : wr.heap[fb]? = some (.cells #[.slice pf n cf, .int .i64 fi] 59 (0, 0)) := by rw [hfb, hD.file f hf, hfv, hn, hfe]
      have FF := Lib.hid ff
      have hlk : 0 < kz → (kz % ((n - fi : Nat) + 1 : Int)).toNat + fi = L := by
        intro h0
        rw [hL, crashK, plain, if_pos h0, hn, hfe]
        exact Nat.add_comm _ _
      have hl0 : ¬ 0 < kz → fi = L := by
        intro h0
        rw [hL, crashK, plain, if_neg h0, hfe]
        rfl
      rw [← hfb] at key
      rw [← hn] at hcap hlen hfi
      rw [← hfe] at hfi
      rw [← hxn, ← hfb] at L0
      rw [← hxn] at hcell
      have KEY := Lib.hid key
      have KZ := Lib.hid (And.intro hkz (And.intro hlk hl0))
      have hks := hk wr _ hS
      clear ff hL hkz key hn hfe hfb hxn hfv hfr hrow hin hx hpl hnm hbd hD hS hlk hl0
      by_cases hpos : j < keep.length ∧ 0 < kz
      · obtain ⟨hjl, h0⟩ := hpos
        have hL := KZ.out.2.1 h0
        obtain ⟨kb, ko, rfl, hkc⟩ := hks.elem hjl
        have e : keep[j] = kz := by rw [KZ.out.1]; simp [List.getD, List.getElem?_eq_getElem hjl]
        rw [e] at hkc
        have hkr := KR.out kz (by rw [← e]; exact List.getElem_mem _)
        have d1 : decide ((j : Int) < keep.length) = true := by simp; exact hjl
        have d2 : decide (0 < kz) = true := by simpa using h0
        obtain ⟨W7, hW7⟩ : ∃ W7, W7 = wr.drew := ⟨_, rfl⟩
        have hb7 : Below wr.heap.size wr W7 := by rw [hW7]; exact (Below.refl _ _).drew
        obtain ⟨WE, hWE⟩ : ∃ WE, WE = W7.drew := ⟨_, rfl⟩
        have hbE : Below wr.heap.size wr WE := by rw [hWE]; exact hb7.drew
        have A := Lib.hid (KEY.out WE hbE)
        have I7 := Lib.hid (And.intro (below_cells hb7 f0) (And.intro (below_cells hb7 f1) (below_cells hb7 hkc)))
        have IE := Lib.hid (And.intro (below_cells hbE f0) (below_cells hbE f1))
        have hz0 : WE.frozen? ⟨fb, 0, none⟩ = false := by rw [hWE, hW7]; exact fz0
        have hz1 : WE.frozen? ⟨fb, 1, none⟩ = false := by rw [hWE, hW7]; exact fz1
        have hblk := setBlk ((hbE.block fb (lt_block FF.out)).trans FF.out) 0 (.slice pf L cf)
        have g0 : (WE.setCell ⟨fb, 0, none⟩ (.slice pf L cf)).cell? ⟨fb, 0, none⟩ = some (.slice pf L cf) := cellsG hblk 0
        have g1 : (WE.setCell ⟨fb, 0, none⟩ (.slice pf L cf)).frozen? ⟨fb, 1, none⟩ = false := thawedG hblk 1
        have g2 : (WE.setCell ⟨fb, 0, none⟩ (.slice pf L cf)).cell? ⟨fb, 1, none⟩ = some (.int .i64 fi) := cellsG hblk 1
        have hm1 := Int.emod_nonneg kz (b := ((n - fi : Nat) + 1 : Int)) (by omega)
        have hm2 := Int.emod_lt_of_pos kz (b := ((n - fi : Nat) + 1 : Int)) (by omega)
        obtain ⟨r, hr⟩ : ∃ r : Nat, (r : Int) = kz % ((n - fi : Nat) + 1 : Int) := ⟨(kz % ((n - fi : Nat) + 1 : Int)).toNat, by omega⟩
        rw [← hr] at hm1 hm2 hL
        have ht : kz.tmod ((n : Int) - fi + 1) = r := by
          rw [Int.tmod_eq_emod_of_nonneg (by omega), hr]
          congr 1
          omega
        have hL2 : (fi : Int) + r = L := by simp at hL; omega
        have hcf : (0 : Int) ≤ L ∧ (L : Int) ≤ cf := by omega
        have w1 : IntKind.i64.wrap ((n : Int) - fi) = (n : Int) - fi := by simp [IntKind.wrap, IntKind.signed, IntKind.bits] <;> omega
        have w2 : IntKind.i64.wrap ((n : Int) - fi + 1) = (n : Int) - fi + 1 := by simp [IntKind.wrap, IntKind.signed, IntKind.bits] <;> omega
        have w3 : ¬ ((n : Int) - fi + 1 = 0) := by omega
        have w4 : IntKind.i64.wrap (L : Int) = L := by simp [IntKind.wrap, IntKind.signed, IntKind.bits] <;> omega
        have w5 : IntKind.i64.wrap (r : Int) = r := by simp [IntKind.wrap, IntKind.signed, IntKind.bits] <;> omega
        have htn : ((L : Nat) : Int).toNat = L := Int.toNat_natCast _
        have HW7 := Lib.hid hW7
        have HWE := Lib.hid hWE
        clear hW7 hb7 hWE hbE f0 f1 fz0 fz1 hblk hm1 hm2 hr hL e hks
        go_wp2_with fail
        refine region_go (fun w' => w'.cell? ⟨fb, 0, none⟩ = some (.slice pf n cf) ∧ w'.cell? ⟨fb, 1, none⟩ = some (.int .i64 fi) ∧ w'.cell? ⟨kb, ko + j, none⟩ = some (.int .i64 kz)) (by kernel_rfl) ?hS0 (fun hH => ?_)
        case hS0 =>
          rw [← HW7.out]; exact I7.out
        rw [← HW7.out] at hH ⊢
        refine kY 0 hH ?_
        repeat simp only [Act.put, uA1, uB1, uC1]
        refine kY 1 hH ?_
        repeat simp only [Act.put, uA1, uB1, uC1]
        refine kY 2 hH ?_
        repeat simp only [Act.put, uA1, uB1, uC1]
        refine kY 3 hH ?_
        repeat simp only [Act.put, uA1, uB1, uC1]
        refine kY 4 hH ?_
        repeat simp only [Act.put, uA1, uB1, uC1]
        refine kY 5 hH ?_
        repeat simp only [Act.put, uA1, uB1, uC1]
        refine kY 6 hH ?_
        repeat simp only [Act.put, uA1, uB1, uC1]
        refine kY 7 hH ?_
        repeat simp only [Act.put, uA1, uB1, uC1]
        refine kY 8 hH ?_
        repeat simp only [Act.put, uA1, uB1, uC1]
        refine kY 9 hH ?_
        repeat simp only [Act.put, uA1, uB1, uC1]
        refine kY 10 hH ?_
        repeat simp only [Act.put, uA1, uB1, uC1]
        refine kY 11 hH ?_
        repeat simp only [Act.put, uA1, uB1, uC1]
        refine kY 12 hH ?_
        repeat simp only [Act.put, uA1, uB1, uC1]
        refine kY 13 hH ?_
        repeat simp only [Act.put, uA1, uB1, uC1]
        refine kY 14 hH ?_
        repeat simp only [Act.put, uA1, uB1, uC1]
        refine kY 15 hH ?_
        repeat simp only [Act.put, uA1, uB1, uC1]
        refine kY 16 hH ?_
        repeat simp only [Act.put, uA1, uB1, uC1]
        refine wpAnyH_done (by decide +kernel) ?_ _
        go_wp2_with fail
        refine region_goN 14 (fun w' => w'.cell? ⟨fb, 0, none⟩ = some (.slice pf n cf) ∧ w'.cell? ⟨fb, 1, none⟩ = some (.int .i64 fi)) (by kernel_rfl) ?hS0 (fun hH => ?_)
        case hS0 =>
          rw [← HWE.out]; exact IE.out
        rw [← HWE.out] at hH ⊢
        refine kYN 0 hH ?_
        repeat simp only [Act.put, uA1, uB1, uC1]
        refine kYN 1 hH ?_
        repeat simp only [Act.put, uA1, uB1, uC1]
        refine kYN 2 hH ?_
        repeat simp only [Act.put, uA1, uB1, uC1]
        refine kYN 3 hH ?_
        repeat simp only [Act.put, uA1, uB1, uC1]
        refine kYN 4 hH ?_
        repeat simp only [Act.put, uA1, uB1, uC1]
        refine kYN 5 hH ?_
        repeat simp only [Act.put, uA1, uB1, uC1]
        refine kYN 6 hH ?_
        repeat simp only [Act.put, uA1, uB1, uC1]
        refine kYN 7 hH ?_
        repeat simp only [Act.put, uA1, uB1, uC1]
        refine kYN 8 hH ?_
        repeat simp only [Act.put, uA1, uB1, uC1]
        refine kYN 9 hH ?_
        repeat simp only [Act.put, uA1, uB1, uC1]
        refine kYN 10 hH ?_
        repeat simp only [Act.put, uA1, uB1, uC1]
        refine kYN 11 hH ?_
        repeat simp only [Act.put, uA1, uB1, uC1]
        refine spkN 12 rfl (by decide) (by decide +kernel) (by rfl) (fun K' hK => ?_)
        go_simp
        try dsimp only
        refine hK.out _ _ ?hS (fun hH' => ?_)
        case hS =>
          exact hH
        clear hK K' hH; have hH := hH'; clear hH'; repeat simp only [Act.put, uA1, uB1, uC1]
        refine kYN 13 hH ?_
        repeat simp only [Act.put, uA1, uB1, uC1]
        refine spkL rfl (by decide +kernel) (by rfl) (fun K' hK => ?_)
        go_simp
        try dsimp only
        refine hK.out _ _ ?_
        clear hK K' hH; repeat simp only [Act.put, uA1, uB1, uC1]
        refine anyBut_done (by decide +kernel) ?_ _
        go_wp2_with fail
        go_roundg (k - (j + 1))
        case measure => omega
        case rel => exact ⟨j + 1, _, rfl, by omega, by go_num, A.out⟩
      · have hLe : fi = L := KZ.out.2.2 (fun h0 => hpos ⟨by
          have := KZ.out.1
          refine Classical.byContradiction fun hge => ?_
          rw [List.getD_eq_getElem?_getD, List.getElem?_eq_none (by omega)] at this
          simp at this
          omega, h0⟩)
        subst hLe
        obtain ⟨WE, hWE⟩ : ∃ WE, WE = wr.drew := ⟨_, rfl⟩
        have hbE : Below wr.heap.size wr WE := by rw [hWE]; exact (Below.refl _ _).drew
        have A := Lib.hid (KEY.out WE hbE)
        have IE := Lib.hid (And.intro (below_cells hbE f0) (below_cells hbE f1))
        have hz0 : WE.frozen? ⟨fb, 0, none⟩ = false := by rw [hWE]; exact fz0
        have hz1 : WE.frozen? ⟨fb, 1, none⟩ = false := by rw [hWE]; exact fz1
        have hcf : (0 : Int) ≤ fi ∧ (fi : Int) ≤ cf := by omega
        have hwf : IntKind.i64.wrap (fi : Int) = fi := by simp [IntKind.wrap, IntKind.signed, IntKind.bits] <;> omega
        have htn : ((fi : Nat) : Int).toNat = fi := Int.toNat_natCast _
        have hblk := setBlk ((hbE.block fb (lt_block FF.out)).trans FF.out) 0 (.slice pf fi cf)
        have g0 : (WE.setCell ⟨fb, 0, none⟩ (.slice pf fi cf)).cell? ⟨fb, 0, none⟩ = some (.slice pf fi cf) := cellsG hblk 0
        have g1 : (WE.setCell ⟨fb, 0, none⟩ (.slice pf fi cf)).frozen? ⟨fb, 1, none⟩ = false := thawedG hblk 1
        have g2 : (WE.setCell ⟨fb, 0, none⟩ (.slice pf fi cf)).cell? ⟨fb, 1, none⟩ = some (.int .i64 fi) := cellsG hblk 1
        have HWE := Lib.hid hWE
        clear hWE hbE f0 f1 fz0 fz1 hblk
        by_cases hjl : j < keep.length
        · have hkz : ¬ 0 < kz := fun h0 => hpos ⟨hjl, h0⟩
          obtain ⟨kb, ko, rfl, hkc⟩ := hks.elem hjl
          have e : keep[j] = kz := by rw [KZ.out.1]; simp [List.getD, List.getElem?_eq_getElem hjl]
          rw [e] at hkc
          have d1 : decide ((j : Int) < keep.length) = true := by simp; exact hjl
          have d2 : decide (0 < kz) = false := by simpa using hkz
          clear e hks hpos
          go_wp2_with fail
          refine region_goN 14 (fun w' => w'.cell? ⟨fb, 0, none⟩ = some (.slice pf n cf) ∧ w'.cell? ⟨fb, 1, none⟩ = some (.int .i64 fi)) (by kernel_rfl) ?hS0 (fun hH => ?_)
          case hS0 =>
            rw [← HWE.out]; exact IE.out
          rw [← HWE.out] at hH ⊢
          refine kYN 0 hH ?_
          repeat simp only [Act.put, uA1, uB1, uC1]
          refine kYN 1 hH ?_
          repeat simp only [Act.put, uA1, uB1, uC1]
          refine kYN 2 hH ?_
          repeat simp only [Act.put, uA1, uB1, uC1]
          refine kYN 3 hH ?_
          repeat simp only [Act.put, uA1, uB1, uC1]
          refine kYN 4 hH ?_
          repeat simp only [Act.put, uA1, uB1, uC1]
          refine kYN 5 hH ?_
          repeat simp only [Act.put, uA1, uB1, uC1]
          refine kYN 6 hH ?_
          repeat simp only [Act.put, uA1, uB1, uC1]
          refine kYN 7 hH ?_
          repeat simp only [Act.put, uA1, uB1, uC1]
          refine kYN 8 hH ?_
          repeat simp only [Act.put, uA1, uB1, uC1]
          refine kYN 9 hH ?_
          repeat simp only [Act.put, uA1, uB1, uC1]
          refine kYN 10 hH ?_
          repeat simp only [Act.put, uA1, uB1, uC1]
          refine kYN 11 hH ?_
          repeat simp only [Act.put, uA1, uB1, uC1]
          refine spkN 12 rfl (by decide) (by decide +kernel) (by rfl) (fun K' hK => ?_)
          go_simp
          try dsimp only
          refine hK.out _ _ ?hS (fun hH' => ?_)
          case hS =>
            exact hH
          clear hK K' hH; have hH := hH'; clear hH'; repeat simp only [Act.put, uA1, uB1, uC1]
          refine kYN 13 hH ?_
          repeat simp only [Act.put, uA1, uB1, uC1]
          refine spkL rfl (by decide +kernel) (by rfl) (fun K' hK => ?_)
          go_simp
          try dsimp only
          refine hK.out _ _ ?_
          clear hK K' hH; repeat simp only [Act.put, uA1, uB1, uC1]
          refine anyBut_done (by decide +kernel) ?_ _
          go_wp2_with fail
          go_roundg (k - (j + 1))
          case measure => omega
          case rel => exact ⟨j + 1, _, rfl, by omega, by go_num, A.out⟩
        · have d1 : decide ((j : Int) < keep.length) = false := by simp; omega
          clear hks hpos
          go_wp2_with fail
          refine region_goN 14 (fun w' => w'.cell? ⟨fb, 0, none⟩ = some (.slice pf n cf) ∧ w'.cell? ⟨fb, 1, none⟩ = some (.int .i64 fi)) (by kernel_rfl) ?hS0 (fun hH => ?_)
          case hS0 =>
            rw [← HWE.out]; exact IE.out
          rw [← HWE.out] at hH ⊢
          refine kYN 0 hH ?_
          repeat simp only [Act.put, uA1, uB1, uC1]
          refine kYN 1 hH ?_
          repeat simp only [Act.put, uA1, uB1, uC1]
          refine kYN 2 hH ?_
          repeat simp only [Act.put, uA1, uB1, uC1]
          refine kYN 3 hH ?_
          repeat simp only [Act.put, uA1, uB1, uC1]
          refine kYN 4 hH ?_
          repeat simp only [Act.put, uA1, uB1, uC1]
          refine kYN 5 hH ?_
          repeat simp only [Act.put, uA1, uB1, uC1]
          refine kYN 6 hH ?_
          repeat simp only [Act.put, uA1, uB1, uC1]
          refine kYN 7 hH ?_
          repeat simp only [Act.put, uA1, uB1, uC1]
          refine kYN 8 hH ?_
          repeat simp only [Act.put, uA1, uB1, uC1]
          refine kYN 9 hH ?_
          repeat simp only [Act.put, uA1, uB1, uC1]
          refine kYN 10 hH ?_
          repeat simp only [Act.put, uA1, uB1, uC1]
          refine kYN 11 hH ?_
          repeat simp only [Act.put, uA1, uB1, uC1]
          refine spkN 12 rfl (by decide) (by decide +kernel) (by rfl) (fun K' hK => ?_)
          go_simp
          try dsimp only
          refine hK.out _ _ ?hS (fun hH' => ?_)
          case hS =>
            exact hH
          clear hK K' hH; have hH := hH'; clear hH'; repeat simp only [Act.put, uA1, uB1, uC1]
          refine kYN 13 hH ?_
          repeat simp only [Act.put, uA1, uB1, uC1]
          refine spkL rfl (by decide +kernel) (by rfl) (fun K' hK => ?_)
          go_simp
          try dsimp only
          refine hK.out _ _ ?_
          clear hK K' hH; repeat simp only [Act.put, uA1, uB1, uC1]
          refine anyBut_done (by decide +kernel) ?_ _
          go_wp2_with fail
          go_roundg (k - (j + 1))
          case measure => omega
          case rel => exact ⟨j + 1, _, rfl, by omega, by go_num, A.out⟩
    · obtain rfl : j = k := by omega
      have hfin : Fj.map plain = crashS (F.map plain) ns keep ns.length := by rw [← HK.out]; exact hpl
      obtain ⟨lf, dn, hDp⟩ : ∃ lf dn, DkAt wr B p m lf dn room Fj := ⟨_, _, hD⟩
      have A := Lib.hid (And.intro hfin (And.intro hD hS))
      have hb0 := setBlk hD.cell 0 (.int .i64 (-1))
      have hb1 := setBlk hb0 1 (.bool false)
      have p0 : wr.cell? ⟨p, 0, none⟩ = some (.int .i64 left) := cellsG hD.cell 0
      have p1 : wr.cell? ⟨p, 1, none⟩ = some (.bool down) := cellsG hD.cell 1
      have z0 : wr.frozen? ⟨p, 0, none⟩ = false := thawedG hD.cell 0
      have z1 : wr.frozen? ⟨p, 1, none⟩ = false := thawedG hD.cell 1
      have hM : Mod (fun j => j = p) wr ((wr.setCell ⟨p, 0, none⟩ (.int .i64 (-1))).setCell ⟨p, 1, none⟩ (.bool false)) := Mod.setCell (F := fun j => j = p) (Mod.setCell (F := fun j => j = p) (Mod.refl _ wr) (p := ⟨p, 0, none⟩) (.inl rfl) _) (p := ⟨p, 1, none⟩) (.inl rfl) _
      have R := Lib.hid (show DkAt ((wr.setCell ⟨p, 0, none⟩ (.int .i64 (-1))).setCell ⟨p, 1, none⟩ (.bool false)) B p m (-1) false room Fj ∧ DkStep w ((wr.setCell ⟨p, 0, none⟩ (.int .i64 (-1))).setCell ⟨p, 1, none⟩ (.bool false)) p m F Fj from ⟨hD.power (by simpa using hb1) hM, hS.trans (DkStep.power p m Fj hM)⟩)
      clear hfin hDp hD hS hb0 hb1 hM hpl hnm hbd hrow hk
      go_wp2_with fail
      go_end0
      exact ⟨rfl, ns, N1.out.1, Fj, A.out.1, R.out.1, R.out.2⟩

end Go.Proofs.Ytdcgooleiefljaa
