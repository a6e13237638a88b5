/-
  disk: what a Write does once it has its power: the file is there, or is made.
-/
import Derived.Test.YtdcgooleiefljaaJ11
namespace Go.Proofs.Ytdcgooleiefljaa
open Go.RowKit Go.ChangeMaps Go.Shelf

theorem MapAt.noCell {α : Type} {mk : α → Value} {w : World} {b : Nat} {L : List (α × Value)} {a : Addr} {u : Value} (h : MapAt w mk b L) (hc : w.cell? a = some u) : a.block ≠ b := by
  obtain ⟨es, c, hi⟩ := h
  rintro rfl
  simp [World.cell?, hi.obj] at hc






set_option maxHeartbeats 4000000 in
/-- a file that is made -/
theorem dkWrite_new (W : World) (B p m : Nat) (left : Int) (down : Bool) (room : Int) (F : List Fz) (bp bn bd : Nat) (name : List UInt8) (h : WrAt W B p m left down room F bd bn name) (pv : Value) (ls : List (List UInt8)) (hc : W.cell? ⟨bp, 0, none⟩ = some pv)
    (hP : Parts W pv ls) (hlen : Lib.lens ls ≤ 1000000) (hn : ls.length ≤ 1000000) (hu : usedF F ≤ 1000000000) (hrz : rightZ name = true) (hfit : ((usedF F + ls.flatten.length : Nat) : Int) ≤ room) (hnew : inF F name = false) (hfew : F.length < 16)
    (hfar : ∀ j, DkF p m F j → j ≠ bd ∧ j ≠ bn) :
    Calls Try.prog 24 #[.pointer (some ⟨bp, 0, none⟩), .pointer (some ⟨bn, 0, none⟩), .pointer (some ⟨bd, 0, none⟩)] W fun e w' => e = .returned (.int .i64 0) ∧
      ∃ b v, DkAt w' B p m left down room (F ++ [more ⟨name, b, .slice none 0 0, [], 0⟩ v ls.flatten]) ∧ DkStep W w' p m F (F ++ [more ⟨name, b, .slice none 0 0, [], 0⟩ v ls.flatten]) := by
  have cJ := dkJoin W pv ls hP hlen hn
  have hpv : pv.oneCell' = true := by obtain ⟨vs, ⟨-, q, c, rfl, -⟩, -⟩ := hP; rfl
  have H := Lib.hid h
  have hfl : ls.flatten.length ≤ 1000000 := by simpa [Lib.lens] using hlen
  have LV := Lib.hid (look_out hnew)
  have FX0 := Lib.hid hfar
  obtain ⟨all, hall⟩ : ∃ all, all = ls.flatten := ⟨_, rfl⟩
  rw [← hall] at cJ hfit hfl ⊢
  have hbig : decide (room < (usedF F : Int) + all.length) = false := by simp; omega
  have hmany : decide ((16 : Int) ≤ F.length) = false := by simp; omega
  have hw : IntKind.i64.wrap ((usedF F : Int) + all.length) = (usedF F : Int) + all.length := by simp [IntKind.wrap, IntKind.signed, IntKind.bits] <;> omega
  have N := Lib.hid hall
  have hu2 := Lib.hid hu
  have HN := Lib.hid hnew
  have hbds := Lib.hid (And.intro (lt_of_cell h.disk) (lt_of_cell h.name))
  have AL := Lib.hid (show all.length ≤ 2000000000 from by omega)
  clear h hP hlen hn hu hall hfit hnew hfar hfew
  go_enter Try.func24, Try.ntmps24
  go_wp2_with (first
    | (go_at_call 25; refine cJ.mono ?_; rintro e w1 ⟨u1, rfl, ⟨q1, c1, rfl, hs1⟩, hb1⟩; have S1 := Lib.hid (And.intro hs1 hb1); have cn1 := (H.out.below hb1).name; have H1 := Lib.hid (H.out.below hb1); clear hs1 hb1)
    | (go_at_call 26; refine (dkRight w1 name).mono ?_; rintro e w2 ⟨rfl, hb2⟩; have S2 := Lib.hid hb2; rw [hrz]; have H2 := Lib.hid (H1.out.below hb2); clear hb2 cn1))
  obtain ⟨W3, hW3⟩ : ∃ W3, W3 = w2.drew := ⟨_, rfl⟩
  have hb3 : Below w2.heap.size w2 W3 := by rw [hW3]; exact (Below.refl _ _).drew
  have H3 := Lib.hid (H2.out.below hb3)
  have cU := dkUsed W3 B p m left down room F H3.out.at_ hu2.out
  have S3 := Lib.hid hb3
  have HW := Lib.hid hW3
  clear hb3 hW3
  refine region_go (fun w' => w'.cell? ⟨bd, 0, none⟩ = some (.pointer (some ⟨p, 0, none⟩)) ∧ w'.cell? ⟨p, 2, none⟩ = some (.int .i64 room)) (by kernel_rfl) ?hS0 (fun hH => ?_)
  case hS0 =>
    rw [← HW.out]; exact ⟨H3.out.disk, H3.out.room⟩
  rw [← HW.out] at hH ⊢
  refine kY 0 hH ?_
  repeat simp only [Act.put, uA1, uB1, uC1]
  refine kY 2 hH ?_
  repeat simp only [Act.put, uA1, uB1, uC1]
  refine kY 3 hH ?_
  repeat simp only [Act.put, uA1, uB1, uC1]
  refine kY 5 hH ?_
  repeat simp only [Act.put, uA1, uB1, uC1]
  refine kY 6 hH ?_
  repeat simp only [Act.put, uA1, uB1, uC1]
  refine kY 7 hH ?_
  repeat simp only [Act.put, uA1, uB1, uC1]
  refine kY 8 hH ?_
  repeat simp only [Act.put, uA1, uB1, uC1]
  refine spk 1 rfl (by decide +kernel) (by rfl) (fun K' hK => ?_)
  go_simp
  with_reducible refine cU.mono ?_
  rintro e w4 ⟨rfl, hb4⟩
  have S4 := Lib.hid (S2.out.trans ((S3.out.trans (hb4.mono S3.out.size)).mono S2.out.size))
  have H4 := Lib.hid (H3.out.below hb4)
  try dsimp only
  refine hK.out _ _ ?hS (fun hH' => ?_)
  case hS =>
    exact ⟨below_cells hb4 hH.1, below_cells hb4 hH.2⟩
  clear hK K' hH; have hH := hH'; clear hH'; repeat simp only [Act.put, uA1, uB1, uC1]
  refine kY 4 hH ?_
  repeat simp only [Act.put, uA1, uB1, uC1]
  refine kY 9 hH ?_
  repeat simp only [Act.put, uA1, uB1, uC1]
  refine kY 10 hH ?_
  repeat simp only [Act.put, uA1, uB1, uC1]
  refine wpAnyH_done (by decide +kernel) ?_ _
  go_wp2_with fail
  obtain ⟨W5, hW5⟩ : ∃ W5, W5 = w4.drew := ⟨_, rfl⟩
  have hb5 : Below w4.heap.size w4 W5 := by rw [hW5]; exact (Below.refl _ _).drew
  have H5 := Lib.hid (H4.out.below hb5)
  have S5 := Lib.hid (S4.out.trans (hb5.mono S4.out.size))
  have L5 := Lib.hid (H5.out.at_.look name)
  have N5 := Lib.hid H5.out.at_.len
  rw [LV.out] at L5
  have HW5 := Lib.hid hW5
  clear hb5 hW5
  refine region_go (fun w' => w'.cell? ⟨bd, 0, none⟩ = some (.pointer (some ⟨p, 0, none⟩)) ∧ w'.cell? ⟨p, 3, none⟩ = some (.map (some m)) ∧ w'.cell? ⟨bn, 0, none⟩ = some (strV name) ∧ (Instr.lookup 54 (.map (some m)) (strV name) false).run Try.prog w' = .ok (.pointer none) w' ∧ (∀ ty, (Builtin.len_ #[54] ty #[.map (some m)]).run Try.prog w' = .ok (.int .i64 F.length) w')) (by kernel_rfl) ?hS0 (fun hH => ?_)
  case hS0 =>
    rw [← HW5.out]; exact ⟨H5.out.disk, H5.out.files, H5.out.name, L5.out, N5.out⟩
  rw [← HW5.out] at hH ⊢
  refine kY 0 hH ?_
  repeat simp only [Act.put, uA1, uB1, uC1]
  refine kY 1 hH ?_
  repeat simp only [Act.put, uA1, uB1, uC1]
  refine kY 2 hH ?_
  repeat simp only [Act.put, uA1, uB1, uC1]
  refine kY 3 hH ?_
  repeat simp only [Act.put, uA1, uB1, uC1]
  refine kY 4 hH ?_
  repeat simp only [Act.put, uA1, uB1, uC1]
  refine kY 5 hH ?_
  repeat simp only [Act.put, uA1, uB1, uC1]
  refine kY 6 hH ?_
  repeat simp only [Act.put, uA1, uB1, uC1]
  refine kY 7 hH ?_
  repeat simp only [Act.put, uA1, uB1, uC1]
  refine kY 8 hH ?_
  repeat simp only [Act.put, uA1, uB1, uC1]
  refine kY 9 hH ?_
  repeat simp only [Act.put, uA1, uB1, uC1]
  refine kY 10 hH ?_
  repeat simp only [Act.put, uA1, uB1, uC1]
  refine kY 11 hH ?_
  repeat simp only [Act.put, uA1, uB1, uC1]
  refine kY 12 hH ?_
  repeat simp only [Act.put, uA1, uB1, uC1]
  refine kY 13 hH ?_
  repeat simp only [Act.put, uA1, uB1, uC1]
  refine kY 14 hH ?_
  repeat simp only [Act.put, uA1, uB1, uC1]
  refine kY 15 hH ?_
  repeat simp only [Act.put, uA1, uB1, uC1]
  refine wpAnyH_done (by decide +kernel) ?_ _
  go_wp2_with fail
  obtain ⟨W7, hW7⟩ : ∃ W7, W7 = W5.drew := ⟨_, rfl⟩
  have hb7 : Below W5.heap.size W5 W7 := by rw [hW7]; exact (Below.refl _ _).drew
  have H7 := Lib.hid (H5.out.below hb7)
  have S7 := Lib.hid (S5.out.trans (hb7.mono S5.out.size))
  have L7 := Lib.hid (H7.out.at_.look name)
  rw [LV.out] at L7
  have HW7 := Lib.hid hW7
  clear hb7 hW7
  refine region_go (fun w' => w'.cell? ⟨bd, 0, none⟩ = some (.pointer (some ⟨p, 0, none⟩)) ∧ w'.cell? ⟨p, 3, none⟩ = some (.map (some m)) ∧ w'.cell? ⟨bn, 0, none⟩ = some (strV name) ∧ (Instr.lookup 54 (.map (some m)) (strV name) false).run Try.prog w' = .ok (.pointer none) w') (by kernel_rfl) ?hS0 (fun hH => ?_)
  case hS0 =>
    rw [← HW7.out]; exact ⟨H7.out.disk, H7.out.files, H7.out.name, L7.out⟩
  rw [← HW7.out] at hH ⊢
  refine kY 0 hH ?_
  repeat simp only [Act.put, uA1, uB1, uC1]
  refine kY 1 hH ?_
  repeat simp only [Act.put, uA1, uB1, uC1]
  refine kY 2 hH ?_
  repeat simp only [Act.put, uA1, uB1, uC1]
  refine kY 3 hH ?_
  repeat simp only [Act.put, uA1, uB1, uC1]
  refine kY 4 hH ?_
  repeat simp only [Act.put, uA1, uB1, uC1]
  refine kY 5 hH ?_
  repeat simp only [Act.put, uA1, uB1, uC1]
  refine kY 6 hH ?_
  repeat simp only [Act.put, uA1, uB1, uC1]
  refine wpAnyH_done (by decide +kernel) ?_ _
  go_wp2_with fail
  obtain ⟨W8, hW8⟩ : ∃ W8, W8 = W7.drew := ⟨_, rfl⟩
  have hb8 : Below W7.heap.size W7 W8 := by rw [hW8]; exact (Below.refl _ _).drew
  have H8 := Lib.hid (H7.out.below hb8)
  have S8 := Lib.hid (S7.out.trans (hb8.mono S7.out.size))
  obtain ⟨wm, hput, hDm, hTm, hMm⟩ := H8.out.at_.make name HN.out
  have Dm := Lib.hid hDm
  have Tm := Lib.hid hTm
  have Mm := Lib.hid hMm
  have HW8 := Lib.hid hW8
  clear hb8 hW8 hDm hTm hMm
  refine region_goN 7 (fun w' => w'.cell? ⟨bd, 0, none⟩ = some (.pointer (some ⟨p, 0, none⟩)) ∧ w'.cell? ⟨p, 3, none⟩ = some (.map (some m)) ∧ w'.cell? ⟨bn, 0, none⟩ = some (strV name)) (by kernel_rfl) ?hS0 (fun hH => ?_)
  case hS0 =>
    rw [← HW8.out]; exact ⟨H8.out.disk, H8.out.files, H8.out.name⟩
  rw [← HW8.out] at hH ⊢
  refine kYN 0 hH ?_
  repeat simp only [Act.put, uA1, uB1, uC1]
  refine kYN 1 hH ?_
  repeat simp only [Act.put, uA1, uB1, uC1]
  refine kYN 2 hH ?_
  repeat simp only [Act.put, uA1, uB1, uC1]
  refine kYN 3 hH ?_
  repeat simp only [Act.put, uA1, uB1, uC1]
  refine kYN 4 hH ?_
  repeat simp only [Act.put, uA1, uB1, uC1]
  refine kYN 5 hH ?_
  repeat simp only [Act.put, uA1, uB1, uC1]
  refine spkN 6 rfl (by decide) (by decide +kernel) (by rfl) (fun K' hK => ?_)
  go_simp
  try dsimp only
  refine hK.out _ _ ?hS (fun hH' => ?_)
  case hS =>
    exact ⟨below_cells ((Below.refl _ _).alloc (Nat.le_refl _) _) hH.1, below_cells ((Below.refl _ _).alloc (Nat.le_refl _) _) hH.2.1, below_cells ((Below.refl _ _).alloc (Nat.le_refl _) _) hH.2.2⟩
  clear hK K' hH; have hH := hH'; clear hH'; repeat simp only [Act.put, uA1, uB1, uC1]
  refine spkL rfl (by decide +kernel) (by rfl) (fun K' hK => ?_)
  go_simp
  try dsimp only
  refine hK.out _ _ ?_
  clear hK K' hH; repeat simp only [Act.put, uA1, uB1, uC1]
  refine anyBut_done (by decide +kernel) ?_ _
  obtain ⟨WX, hWX⟩ : ∃ WX, WX = wm := ⟨_, rfl⟩
  obtain ⟨f, hf⟩ : ∃ f : Fz, f = ⟨name, W8.heap.size, .slice none 0 0, [], 0⟩ := ⟨_, rfl⟩
  rw [← hf] at Dm Tm
  have FE := Lib.hid hf
  have hlt8 : ∀ j, j < W.heap.size → j < W8.heap.size := fun j hj => Nat.lt_of_lt_of_le hj (Nat.le_trans S1.out.2.size S8.out.size)
  have FX2 := Lib.hid (show ∀ j, DkF p m (F ++ f :: []) j → j ≠ bd ∧ j ≠ bn from by
    intro j hj
    rcases Tm.out.2 j hj with hj | hj
    · exact FX0.out j hj
    · have h1 : bd < W8.heap.size := hlt8 _ hbds.out.1
      have h2 : bn < W8.heap.size := hlt8 _ hbds.out.2
      exact ⟨by omega, by omega⟩)
  have hkm : ∀ j u, W8.cell? ⟨j, 0, none⟩ = some u → j ≠ m → wm.cell? ⟨j, 0, none⟩ = some u := fun j u hc hne => by
    rw [World.cell?_of_block (Mm.out.block j (lt_of_cell hc) hne)]; exact hc
  have HX := Lib.hid (show WrAt WX B p m left down room (F ++ f :: []) bd bn name from by
    rw [hWX]
    exact ⟨Dm.out, hkm _ _ H8.out.disk (Ne.symm (FX0.out m (.inr (.inl rfl))).1), hkm _ _ H8.out.name (Ne.symm (FX0.out m (.inr (.inl rfl))).2)⟩)
  have TX := Lib.hid (show DkStep W WX p m F (F ++ f :: []) from by
    rw [hWX]
    exact (DkStep.below p m F (S1.out.2.trans (S8.out.mono S1.out.2.size))).trans Tm.out)
  have SX := Lib.hid (show SrcAt WX q1 all.length c1 1 (all.map encB) from by
    rw [hWX]
    exact (S1.out.1.below S8.out).agree fun a u hc => by rw [World.cell?_of_block (Mm.out.block a.block (lt_of_cell hc) (H8.out.at_.files.noCell hc))]; exact hc)
  have NX := Lib.hid (show f.name = name from by rw [hf])
  have LX := Lib.hid (show f.bytes.length + all.length ≤ 2000000000 from by rw [hf]; simpa using AL.out)
  rw [← hWX]
  clear hWX hkm hlt8 hf hput
  go_wp2_with fail
  obtain ⟨W9, hW9⟩ : ∃ W9, W9 = WX.drew := ⟨_, rfl⟩
  have hb9 : Below WX.heap.size WX W9 := by rw [hW9]; exact (Below.refl _ _).drew
  have H9 := Lib.hid (HX.out.below hb9)
  have T9 := Lib.hid (TX.out.trans (DkStep.below p m _ hb9))
  have A9 := Lib.hid (SX.out.below hb9)
  have L9 := Lib.hid (H9.out.at_.look name)
  rw [← NX.out, H9.out.at_.look_mid, NX.out] at L9
  have HW9 := Lib.hid hW9
  clear hb9 hW9
  obtain ⟨q', k', c', w10, hrun, hg10, hfb, hpb, hm10, hD10, hT10⟩ := H9.out.at_.app all A9.out LX.out
  obtain ⟨pf, nf, cf, hfv⟩ := own_form (H9.out.at_.row f (by simp))
  have hcell9 : W9.cell? ⟨f.blk, 0, none⟩ = some f.v := by simp [World.cell?, H9.out.at_.file f (by simp)]
  have hcell10 : w10.cell? ⟨f.blk, 0, none⟩ = some f.v := by simp [World.cell?, hfb, H9.out.at_.file f (by simp)]
  have hfz : w10.frozen? ⟨f.blk, 0, none⟩ = false := by simp [World.frozen?, hfb, H9.out.at_.file f (by simp)]
  have L10 := run_look KOS Try.underlying54 hm10 (zeroF w10) name false
  rw [← NX.out, H9.out.at_.look_mid, NX.out] at L10
  simp only [Bool.false_eq_true, if_false] at L10
  have hbd10 : w10.cell? ⟨bd, 0, none⟩ = some (.pointer (some ⟨p, 0, none⟩)) := hg10.cell H9.out.disk fun e => (FX2.out bd (.inr (.inr ⟨f, by simp, .inr e.symm⟩))).1 rfl
  have hbn10 : w10.cell? ⟨bn, 0, none⟩ = some (strV name) := hg10.cell H9.out.name fun e => (FX2.out bn (.inr (.inr ⟨f, by simp, .inr e.symm⟩))).2 rfl
  have hp10 : w10.cell? ⟨p, 3, none⟩ = some (.map (some m)) := by simp [World.cell?, hpb, H9.out.at_.cell]
  rw [hfv] at hrun hcell9 hcell10
  have C9 := Lib.hid hcell9
  have S10 := Lib.hid (And.intro hbd10 (And.intro hp10 (And.intro hbn10 (And.intro L10 hcell10))))
  have E10 := Lib.hid (And.intro hD10 (T9.out.trans hT10))
  obtain ⟨fb, hfb2⟩ : ∃ fb, fb = f.blk := ⟨_, rfl⟩
  rw [← hfb2] at C9 S10 L9 hfz hcell10
  have FB := Lib.hid hfb2
  clear hcell9 L10 hbd10 hbn10 hp10 hD10 hT10 hm10 hpb hfb hfv hfb2 hg10
  refine region_goN 19 (fun w' => w'.cell? ⟨bd, 0, none⟩ = some (.pointer (some ⟨p, 0, none⟩)) ∧ w'.cell? ⟨p, 3, none⟩ = some (.map (some m)) ∧ w'.cell? ⟨bn, 0, none⟩ = some (strV name) ∧ (Instr.lookup 54 (.map (some m)) (strV name) false).run Try.prog w' = .ok (.pointer (some ⟨fb, 0, none⟩)) w' ∧ w'.cell? ⟨fb, 0, none⟩ = some (.slice pf nf cf)) (by kernel_rfl) ?hS0 (fun hH => ?_)
  case hS0 =>
    rw [← HW9.out]; exact ⟨H9.out.disk, H9.out.files, H9.out.name, L9.out, C9.out⟩
  rw [← HW9.out] at hH ⊢
  refine kYN 0 hH ?_
  repeat simp only [Act.put, uA1, uB1, uC1]
  refine kYN 1 hH ?_
  repeat simp only [Act.put, uA1, uB1, uC1]
  refine kYN 2 hH ?_
  repeat simp only [Act.put, uA1, uB1, uC1]
  refine kYN 3 hH ?_
  repeat simp only [Act.put, uA1, uB1, uC1]
  refine kYN 4 hH ?_
  repeat simp only [Act.put, uA1, uB1, uC1]
  refine kYN 5 hH ?_
  repeat simp only [Act.put, uA1, uB1, uC1]
  refine kYN 6 hH ?_
  repeat simp only [Act.put, uA1, uB1, uC1]
  refine kYN 7 hH ?_
  repeat simp only [Act.put, uA1, uB1, uC1]
  refine kYN 8 hH ?_
  repeat simp only [Act.put, uA1, uB1, uC1]
  refine kYN 9 hH ?_
  repeat simp only [Act.put, uA1, uB1, uC1]
  refine kYN 10 hH ?_
  repeat simp only [Act.put, uA1, uB1, uC1]
  refine kYN 11 hH ?_
  repeat simp only [Act.put, uA1, uB1, uC1]
  refine kYN 12 hH ?_
  repeat simp only [Act.put, uA1, uB1, uC1]
  refine kYN 13 hH ?_
  repeat simp only [Act.put, uA1, uB1, uC1]
  refine kYN 14 hH ?_
  repeat simp only [Act.put, uA1, uB1, uC1]
  refine kYN 15 hH ?_
  repeat simp only [Act.put, uA1, uB1, uC1]
  refine spkN 16 rfl (by decide) (by decide +kernel) (by rfl) (fun K' hK => ?_)
  refine wp_append_eq hrun _ _ rfl rfl rfl ?_
  try dsimp only
  refine hK.out _ _ ?hS (fun hH' => ?_)
  case hS =>
    exact S10.out
  clear hK K' hH; have hH := hH'; clear hH'; repeat simp only [Act.put, uA1, uB1, uC1]
  refine spkN 17 rfl (by decide) (by decide +kernel) (by rfl) (fun K' hK => ?_)
  go_simp
  try dsimp only
  refine hK.out _ _ ?hS (fun hH' => ?_)
  case hS =>
    exact hH
  clear hK K' hH; have hH := hH'; clear hH'; repeat simp only [Act.put, uA1, uB1, uC1]
  refine kYN 18 hH ?_
  repeat simp only [Act.put, uA1, uB1, uC1]
  refine spkL rfl (by decide +kernel) (by rfl) (fun K' hK => ?_)
  go_simp
  try dsimp only
  refine hK.out _ _ ?_
  clear hK K' hH; repeat simp only [Act.put, uA1, uB1, uC1]
  refine anyBut_done (by decide +kernel) ?_ _
  go_wp2_with fail
  go_ret
  have E11 := E10.out
  rw [← FB.out] at E11
  rw [FE.out] at E11
  exact ⟨rfl, _, _, E11.1, E11.2⟩

set_option maxHeartbeats 4000000 in
/-- a file that is there -/
theorem dkWrite_old (W : World) (B p m : Nat) (left : Int) (down : Bool) (room : Int) (F F1 F2 : List Fz) (f : Fz) (bp bn bd : Nat) (name : List UInt8) (h : WrAt W B p m left down room F bd bn name) (hF : F = F1 ++ f :: F2) (pv : Value) (ls : List (List UInt8)) (hc : W.cell? ⟨bp, 0, none⟩ = some pv)
    (hP : Parts W pv ls) (hlen : Lib.lens ls ≤ 1000000) (hn : ls.length ≤ 1000000) (hu : usedF F ≤ 1000000000) (hrz : rightZ name = true) (hfit : ((usedF F + ls.flatten.length : Nat) : Int) ≤ room) (hnm : f.name = name)
    (hfar : ∀ j, DkF p m F j → j ≠ bd ∧ j ≠ bn) :
    Calls Try.prog 24 #[.pointer (some ⟨bp, 0, none⟩), .pointer (some ⟨bn, 0, none⟩), .pointer (some ⟨bd, 0, none⟩)] W fun e w' => e = .returned (.int .i64 0) ∧
      ∃ v, DkAt w' B p m left down room (F1 ++ more f v ls.flatten :: F2) ∧ DkStep W w' p m F (F1 ++ more f v ls.flatten :: F2) := by
  have cJ := dkJoin W pv ls hP hlen hn
  have hpv : pv.oneCell' = true := by obtain ⟨vs, ⟨-, q, c, rfl, -⟩, -⟩ := hP; rfl
  have H := Lib.hid h
  have hfl : ls.flatten.length ≤ 1000000 := by simpa [Lib.lens] using hlen
  have hus : f.bytes.length ≤ 1000000000 := by have := usedF_mid F1 F2 f; rw [hF] at hu; omega
  have LV := Lib.hid (show (getK (filesL F) name).getD (.pointer none) = .pointer (some ⟨f.blk, 0, none⟩) from by
    have := h.at_
    rw [hF] at this ⊢
    rw [← hnm]
    exact this.look_mid)
  have NX := Lib.hid hnm
  have FX2 := Lib.hid hfar
  obtain ⟨all, hall⟩ : ∃ all, all = ls.flatten := ⟨_, rfl⟩
  rw [← hall] at cJ hfit hfl ⊢
  have LX := Lib.hid (show f.bytes.length + all.length ≤ 2000000000 from by omega)
  have hbig : decide (room < (usedF F : Int) + all.length) = false := by simp; omega
  have hw : IntKind.i64.wrap ((usedF F : Int) + all.length) = (usedF F : Int) + all.length := by simp [IntKind.wrap, IntKind.signed, IntKind.bits] <;> omega
  have N := Lib.hid hall
  have hu2 := Lib.hid hu
  have HF := Lib.hid hF
  clear h hP hlen hn hu hall hfit hnm hfar hus hF
  go_enter Try.func24, Try.ntmps24
  go_wp2_with (first
    | (go_at_call 25; refine cJ.mono ?_; rintro e w1 ⟨u1, rfl, ⟨q1, c1, rfl, hs1⟩, hb1⟩; have S1 := Lib.hid (And.intro hs1 hb1); have cn1 := (H.out.below hb1).name; have H1 := Lib.hid (H.out.below hb1); clear hs1 hb1)
    | (go_at_call 26; refine (dkRight w1 name).mono ?_; rintro e w2 ⟨rfl, hb2⟩; have S2 := Lib.hid hb2; rw [hrz]; have H2 := Lib.hid (H1.out.below hb2); clear hb2 cn1))
  obtain ⟨W3, hW3⟩ : ∃ W3, W3 = w2.drew := ⟨_, rfl⟩
  have hb3 : Below w2.heap.size w2 W3 := by rw [hW3]; exact (Below.refl _ _).drew
  have H3 := Lib.hid (H2.out.below hb3)
  have cU := dkUsed W3 B p m left down room F H3.out.at_ hu2.out
  have S3 := Lib.hid hb3
  have HW := Lib.hid hW3
  clear hb3 hW3
  refine region_go (fun w' => w'.cell? ⟨bd, 0, none⟩ = some (.pointer (some ⟨p, 0, none⟩)) ∧ w'.cell? ⟨p, 2, none⟩ = some (.int .i64 room)) (by kernel_rfl) ?hS0 (fun hH => ?_)
  case hS0 =>
    rw [← HW.out]; exact ⟨H3.out.disk, H3.out.room⟩
  rw [← HW.out] at hH ⊢
  refine kY 0 hH ?_
  repeat simp only [Act.put, uA1, uB1, uC1]
  refine kY 2 hH ?_
  repeat simp only [Act.put, uA1, uB1, uC1]
  refine kY 3 hH ?_
  repeat simp only [Act.put, uA1, uB1, uC1]
  refine kY 5 hH ?_
  repeat simp only [Act.put, uA1, uB1, uC1]
  refine kY 6 hH ?_
  repeat simp only [Act.put, uA1, uB1, uC1]
  refine kY 7 hH ?_
  repeat simp only [Act.put, uA1, uB1, uC1]
  refine kY 8 hH ?_
  repeat simp only [Act.put, uA1, uB1, uC1]
  refine spk 1 rfl (by decide +kernel) (by rfl) (fun K' hK => ?_)
  go_simp
  with_reducible refine cU.mono ?_
  rintro e w4 ⟨rfl, hb4⟩
  have S4 := Lib.hid (S2.out.trans ((S3.out.trans (hb4.mono S3.out.size)).mono S2.out.size))
  have H4 := Lib.hid (H3.out.below hb4)
  try dsimp only
  refine hK.out _ _ ?hS (fun hH' => ?_)
  case hS =>
    exact ⟨below_cells hb4 hH.1, below_cells hb4 hH.2⟩
  clear hK K' hH; have hH := hH'; clear hH'; repeat simp only [Act.put, uA1, uB1, uC1]
  refine kY 4 hH ?_
  repeat simp only [Act.put, uA1, uB1, uC1]
  refine kY 9 hH ?_
  repeat simp only [Act.put, uA1, uB1, uC1]
  refine kY 10 hH ?_
  repeat simp only [Act.put, uA1, uB1, uC1]
  refine wpAnyH_done (by decide +kernel) ?_ _
  go_wp2_with fail
  obtain ⟨W5, hW5⟩ : ∃ W5, W5 = w4.drew := ⟨_, rfl⟩
  have hb5 : Below w4.heap.size w4 W5 := by rw [hW5]; exact (Below.refl _ _).drew
  have H5 := Lib.hid (H4.out.below hb5)
  have S5 := Lib.hid (S4.out.trans (hb5.mono S4.out.size))
  have L5 := Lib.hid (H5.out.at_.look name)
  have N5 := Lib.hid H5.out.at_.len
  rw [LV.out] at L5
  have HW5 := Lib.hid hW5
  clear hb5 hW5
  refine region_go (fun w' => w'.cell? ⟨bd, 0, none⟩ = some (.pointer (some ⟨p, 0, none⟩)) ∧ w'.cell? ⟨p, 3, none⟩ = some (.map (some m)) ∧ w'.cell? ⟨bn, 0, none⟩ = some (strV name) ∧ (Instr.lookup 54 (.map (some m)) (strV name) false).run Try.prog w' = .ok (.pointer (some ⟨f.blk, 0, none⟩)) w' ∧ (∀ ty, (Builtin.len_ #[54] ty #[.map (some m)]).run Try.prog w' = .ok (.int .i64 F.length) w')) (by kernel_rfl) ?hS0 (fun hH => ?_)
  case hS0 =>
    rw [← HW5.out]; exact ⟨H5.out.disk, H5.out.files, H5.out.name, L5.out, N5.out⟩
  rw [← HW5.out] at hH ⊢
  refine kY 0 hH ?_
  repeat simp only [Act.put, uA1, uB1, uC1]
  refine kY 1 hH ?_
  repeat simp only [Act.put, uA1, uB1, uC1]
  refine kY 2 hH ?_
  repeat simp only [Act.put, uA1, uB1, uC1]
  refine kY 3 hH ?_
  repeat simp only [Act.put, uA1, uB1, uC1]
  refine kY 4 hH ?_
  repeat simp only [Act.put, uA1, uB1, uC1]
  refine kY 5 hH ?_
  repeat simp only [Act.put, uA1, uB1, uC1]
  refine kY 6 hH ?_
  repeat simp only [Act.put, uA1, uB1, uC1]
  refine kY 7 hH ?_
  repeat simp only [Act.put, uA1, uB1, uC1]
  refine kN 8 hH ?_
  repeat simp only [Act.put, uA1, uB1, uC1]
  refine kN 9 hH ?_
  repeat simp only [Act.put, uA1, uB1, uC1]
  refine kN 10 hH ?_
  repeat simp only [Act.put, uA1, uB1, uC1]
  refine kN 11 hH ?_
  repeat simp only [Act.put, uA1, uB1, uC1]
  refine kN 12 hH ?_
  repeat simp only [Act.put, uA1, uB1, uC1]
  refine kN 13 hH ?_
  repeat simp only [Act.put, uA1, uB1, uC1]
  refine kY 14 hH ?_
  repeat simp only [Act.put, uA1, uB1, uC1]
  refine kY 15 hH ?_
  repeat simp only [Act.put, uA1, uB1, uC1]
  refine wpAnyH_done (by decide +kernel) ?_ _
  go_wp2_with fail
  obtain ⟨W7, hW7⟩ : ∃ W7, W7 = W5.drew := ⟨_, rfl⟩
  have hb7 : Below W5.heap.size W5 W7 := by rw [hW7]; exact (Below.refl _ _).drew
  have H7 := Lib.hid (H5.out.below hb7)
  have S7 := Lib.hid (S5.out.trans (hb7.mono S5.out.size))
  have L7 := Lib.hid (H7.out.at_.look name)
  rw [LV.out] at L7
  have HW7 := Lib.hid hW7
  clear hb7 hW7
  refine region_go (fun w' => w'.cell? ⟨bd, 0, none⟩ = some (.pointer (some ⟨p, 0, none⟩)) ∧ w'.cell? ⟨p, 3, none⟩ = some (.map (some m)) ∧ w'.cell? ⟨bn, 0, none⟩ = some (strV name) ∧ (Instr.lookup 54 (.map (some m)) (strV name) false).run Try.prog w' = .ok (.pointer (some ⟨f.blk, 0, none⟩)) w') (by kernel_rfl) ?hS0 (fun hH => ?_)
  case hS0 =>
    rw [← HW7.out]; exact ⟨H7.out.disk, H7.out.files, H7.out.name, L7.out⟩
  rw [← HW7.out] at hH ⊢
  refine kY 0 hH ?_
  repeat simp only [Act.put, uA1, uB1, uC1]
  refine kY 1 hH ?_
  repeat simp only [Act.put, uA1, uB1, uC1]
  refine kY 2 hH ?_
  repeat simp only [Act.put, uA1, uB1, uC1]
  refine kY 3 hH ?_
  repeat simp only [Act.put, uA1, uB1, uC1]
  refine kY 4 hH ?_
  repeat simp only [Act.put, uA1, uB1, uC1]
  refine kY 5 hH ?_
  repeat simp only [Act.put, uA1, uB1, uC1]
  refine kY 6 hH ?_
  repeat simp only [Act.put, uA1, uB1, uC1]
  refine wpAnyH_done (by decide +kernel) ?_ _
  go_wp2_with fail
  obtain ⟨WX, hWX⟩ : ∃ WX, WX = W7 := ⟨_, rfl⟩
  rw [← hWX] at S7 H7 ⊢
  have SX := Lib.hid (S1.out.1.below S7.out)
  have TX := Lib.hid (DkStep.below p m F (S1.out.2.trans (S7.out.mono S1.out.2.size)))
  have HX := H7
  rw [HF.out] at HX FX2 TX
  clear hWX
  obtain ⟨W9, hW9⟩ : ∃ W9, W9 = WX.drew := ⟨_, rfl⟩
  have hb9 : Below WX.heap.size WX W9 := by rw [hW9]; exact (Below.refl _ _).drew
  have H9 := Lib.hid (HX.out.below hb9)
  have T9 := Lib.hid (TX.out.trans (DkStep.below p m _ hb9))
  have A9 := Lib.hid (SX.out.below hb9)
  have L9 := Lib.hid (H9.out.at_.look name)
  rw [← NX.out, H9.out.at_.look_mid, NX.out] at L9
  have HW9 := Lib.hid hW9
  clear hb9 hW9
  obtain ⟨q', k', c', w10, hrun, hg10, hfb, hpb, hm10, hD10, hT10⟩ := H9.out.at_.app all A9.out LX.out
  obtain ⟨pf, nf, cf, hfv⟩ := own_form (H9.out.at_.row f (by simp))
  have hcell9 : W9.cell? ⟨f.blk, 0, none⟩ = some f.v := by simp [World.cell?, H9.out.at_.file f (by simp)]
  have hcell10 : w10.cell? ⟨f.blk, 0, none⟩ = some f.v := by simp [World.cell?, hfb, H9.out.at_.file f (by simp)]
  have hfz : w10.frozen? ⟨f.blk, 0, none⟩ = false := by simp [World.frozen?, hfb, H9.out.at_.file f (by simp)]
  have L10 := run_look KOS Try.underlying54 hm10 (zeroF w10) name false
  rw [← NX.out, H9.out.at_.look_mid, NX.out] at L10
  simp only [Bool.false_eq_true, if_false] at L10
  have hbd10 : w10.cell? ⟨bd, 0, none⟩ = some (.pointer (some ⟨p, 0, none⟩)) := hg10.cell H9.out.disk fun e => (FX2.out bd (.inr (.inr ⟨f, by simp, .inr e.symm⟩))).1 rfl
  have hbn10 : w10.cell? ⟨bn, 0, none⟩ = some (strV name) := hg10.cell H9.out.name fun e => (FX2.out bn (.inr (.inr ⟨f, by simp, .inr e.symm⟩))).2 rfl
  have hp10 : w10.cell? ⟨p, 3, none⟩ = some (.map (some m)) := by simp [World.cell?, hpb, H9.out.at_.cell]
  rw [hfv] at hrun hcell9 hcell10
  have C9 := Lib.hid hcell9
  have S10 := Lib.hid (And.intro hbd10 (And.intro hp10 (And.intro hbn10 (And.intro L10 hcell10))))
  have E10 := Lib.hid (And.intro hD10 (T9.out.trans hT10))
  obtain ⟨fb, hfb2⟩ : ∃ fb, fb = f.blk := ⟨_, rfl⟩
  rw [← hfb2] at C9 S10 L9 hfz hcell10
  have FB := Lib.hid hfb2
  clear hcell9 L10 hbd10 hbn10 hp10 hD10 hT10 hm10 hpb hfb hfv hfb2 hg10
  refine region_goN 19 (fun w' => w'.cell? ⟨bd, 0, none⟩ = some (.pointer (some ⟨p, 0, none⟩)) ∧ w'.cell? ⟨p, 3, none⟩ = some (.map (some m)) ∧ w'.cell? ⟨bn, 0, none⟩ = some (strV name) ∧ (Instr.lookup 54 (.map (some m)) (strV name) false).run Try.prog w' = .ok (.pointer (some ⟨fb, 0, none⟩)) w' ∧ w'.cell? ⟨fb, 0, none⟩ = some (.slice pf nf cf)) (by kernel_rfl) ?hS0 (fun hH => ?_)
  case hS0 =>
    rw [← HW9.out]; exact ⟨H9.out.disk, H9.out.files, H9.out.name, L9.out, C9.out⟩
  rw [← HW9.out] at hH ⊢
  refine kYN 0 hH ?_
  repeat simp only [Act.put, uA1, uB1, uC1]
  refine kYN 1 hH ?_
  repeat simp only [Act.put, uA1, uB1, uC1]
  refine kYN 2 hH ?_
  repeat simp only [Act.put, uA1, uB1, uC1]
  refine kYN 3 hH ?_
  repeat simp only [Act.put, uA1, uB1, uC1]
  refine kYN 4 hH ?_
  repeat simp only [Act.put, uA1, uB1, uC1]
  refine kYN 5 hH ?_
  repeat simp only [Act.put, uA1, uB1, uC1]
  refine kYN 6 hH ?_
  repeat simp only [Act.put, uA1, uB1, uC1]
  refine kYN 7 hH ?_
  repeat simp only [Act.put, uA1, uB1, uC1]
  refine kYN 8 hH ?_
  repeat simp only [Act.put, uA1, uB1, uC1]
  refine kYN 9 hH ?_
  repeat simp only [Act.put, uA1, uB1, uC1]
  refine kYN 10 hH ?_
  repeat simp only [Act.put, uA1, uB1, uC1]
  refine kYN 11 hH ?_
  repeat simp only [Act.put, uA1, uB1, uC1]
  refine kYN 12 hH ?_
  repeat simp only [Act.put, uA1, uB1, uC1]
  refine kYN 13 hH ?_
  repeat simp only [Act.put, uA1, uB1, uC1]
  refine kYN 14 hH ?_
  repeat simp only [Act.put, uA1, uB1, uC1]
  refine kYN 15 hH ?_
  repeat simp only [Act.put, uA1, uB1, uC1]
  refine spkN 16 rfl (by decide) (by decide +kernel) (by rfl) (fun K' hK => ?_)
  refine wp_append_eq hrun _ _ rfl rfl rfl ?_
  try dsimp only
  refine hK.out _ _ ?hS (fun hH' => ?_)
  case hS =>
    exact S10.out
  clear hK K' hH; have hH := hH'; clear hH'; repeat simp only [Act.put, uA1, uB1, uC1]
  refine spkN 17 rfl (by decide) (by decide +kernel) (by rfl) (fun K' hK => ?_)
  go_simp
  try dsimp only
  refine hK.out _ _ ?hS (fun hH' => ?_)
  case hS =>
    exact hH
  clear hK K' hH; have hH := hH'; clear hH'; repeat simp only [Act.put, uA1, uB1, uC1]
  refine kYN 18 hH ?_
  repeat simp only [Act.put, uA1, uB1, uC1]
  refine spkL rfl (by decide +kernel) (by rfl) (fun K' hK => ?_)
  go_simp
  try dsimp only
  refine hK.out _ _ ?_
  clear hK K' hH; repeat simp only [Act.put, uA1, uB1, uC1]
  refine anyBut_done (by decide +kernel) ?_ _
  go_wp2_with fail
  go_ret
  have E11 := E10.out
  rw [← FB.out] at E11
  exact ⟨rfl, _, E11.1, by rw [HF.out]; exact E11.2⟩

end Go.Proofs.Ytdcgooleiefljaa
