/-
  disk: Trim.
-/
import Derived.Test.YtdcgooleiefljaaJ17
import Derived.Test.YtdcgooleiefljaaJ25
namespace Go.Proofs.Ytdcgooleiefljaa
open Go.RowKit Go.ChangeMaps Go.Shelf


set_option maxRecDepth 100000 in
set_option maxHeartbeats 4000000 in
theorem dkTrim1 (W : World) (B p m : Nat) (left : Int) (down : Bool) (room : Int) (F F1 F2 : List Fz) (f : Fz) (h : DkAt W B p m left down room F) (hF : F = F1 ++ f :: F2) (bd bn bk : Nat) (name : List UInt8) (k : Int) (cd : W.cell? ⟨bd, 0, none⟩ = some (.pointer (some ⟨p, 0, none⟩))) (cn : W.cell? ⟨bn, 0, none⟩ = some (strV name)) (ck : W.cell? ⟨bk, 0, none⟩ = some (.int .i64 k)) (hnm : f.name = name) (hlen : f.bytes.length ≤ 1000000000) :
    Calls Try.prog 33 #[.pointer (some ⟨bd, 0, none⟩), .pointer (some ⟨bn, 0, none⟩), .pointer (some ⟨bk, 0, none⟩)] W fun e w' => ∃ z : Int, e = .returned (.int .i64 z) ∧ (z = 0 ∨ z = 1) ∧
      ∃ F', (F'.length = F.length ∧ usedF F' ≤ usedF F) ∧ DkAt w' B p m left down room F' ∧ DkStep W w' p m F F' := by
  subst hF
  have hf : f ∈ F1 ++ f :: F2 := by simp
  have LV := Lib.hid (show (getK (filesL (F1 ++ f :: F2)) name).getD (.pointer none) = .pointer (some ⟨f.blk, 0, none⟩) from by rw [← hnm]; exact h.look_mid)
  have H := Lib.hid h
  clear h hnm
  obtain ⟨W1, hW1⟩ : ∃ W1, W1 = W.drew := ⟨_, rfl⟩
  have hb1 : Below W.heap.size W W1 := by rw [hW1]; exact (Below.refl _ _).drew
  have D1 := Lib.hid (H.out.below hb1)
  have c3 : W1.cell? ⟨p, 3, none⟩ = some (.map (some m)) := by simp [World.cell?, D1.out.cell]
  have L1 := D1.out.look name
  rw [LV.out] at L1
  have I1 := Lib.hid (And.intro (below_cells hb1 cd) (And.intro c3 (And.intro (below_cells hb1 cn) L1)))
  have S1 := Lib.hid hb1
  have HW1 := Lib.hid hW1
  have ck1 := Lib.hid (below_cells hb1 ck)
  clear hW1 hb1 c3 L1 cd cn
  go_enter Try.func33, Try.ntmps33
  go_wp2_with fail
  refine region_go (fun w' => w'.cell? ⟨bd, 0, none⟩ = some (.pointer (some ⟨p, 0, none⟩)) ∧ w'.cell? ⟨p, 3, none⟩ = some (.map (some m)) ∧ w'.cell? ⟨bn, 0, none⟩ = some (strV name) ∧ (Instr.lookup 54 (.map (some m)) (strV name) false).run Try.prog w' = .ok (.pointer (some ⟨f.blk, 0, none⟩)) w') (by kernel_rfl) ?hS0 (fun hH => ?_)
  case hS0 =>
    rw [← HW1.out]; exact I1.out
  rw [← HW1.out] at hH ⊢
  refine kY 0 hH ?_
  repeat simp only [Act.put, uA1, uB1, uC1]
  refine kY 1 hH ?_
  repeat simp only [Act.put, uA1, uB1, uC1]
  refine kY 2 hH ?_
  repeat simp only [Act.put, uA1, uB1, uC1]
  refine kY 3 hH ?_
  repeat simp only [Act.put, uA1, uB1, uC1]
  refine kY 4 hH ?_
  repeat simp only [Act.put, uA1, uB1, uC1]
  refine kY 5 hH ?_
  repeat simp only [Act.put, uA1, uB1, uC1]
  refine kY 6 hH ?_
  repeat simp only [Act.put, uA1, uB1, uC1]
  refine wpAnyH_done (by decide +kernel) ?_ _
  obtain ⟨W2, hW2⟩ : ∃ W2, W2 = W1.drew := ⟨_, rfl⟩
  have hb2 : Below W1.heap.size W1 W2 := by rw [hW2]; exact (Below.refl _ _).drew
  have D2 := Lib.hid (D1.out.below hb2)
  obtain ⟨pf, n, cf, hfv⟩ := own_form (D2.out.row f hf)
  have hrow := D2.out.row f hf
  rw [hfv] at hrow
  obtain rfl : n = f.bytes.length := own_len hrow
  have hcap := own_cap hrow
  have hfi := D2.out.firm f hf
  have f0 : W2.cell? ⟨f.blk, 0, none⟩ = some (.slice pf f.bytes.length cf) := by simp [World.cell?, D2.out.file f hf, hfv]
  have fk := below_cells hb2 ck1.out
  have I2 := Lib.hid (And.intro f0 fk)
  have B2 := Lib.hid (S1.out.trans (hb2.mono S1.out.size))
  have HW2 := Lib.hid hW2
  have FV := Lib.hid hfv
  obtain ⟨L, hL⟩ : ∃ L, L = f.bytes.length := ⟨_, rfl⟩
  obtain ⟨fi, hfie⟩ : ∃ fi, fi = f.firm := ⟨_, rfl⟩
  obtain ⟨fb, hfb⟩ : ∃ fb, fb = f.blk := ⟨_, rfl⟩
  rw [← hL, ← hfb] at I2
  rw [← hL] at hcap hfi hlen
  rw [← hfie] at hfi
  have LN := Lib.hid (And.intro hL (And.intro hfie hfb))
  rw [← hfb]
  clear hW2 hb2 hrow f0 fk hfv hL hfie hfb
  go_wp2_with fail
  by_cases hneg : k < 0
  · skip
    refine region_go (fun w' => w'.cell? ⟨fb, 0, none⟩ = some (.slice pf L cf) ∧ w'.cell? ⟨bk, 0, none⟩ = some (.int .i64 k)) (by kernel_rfl) ?hS0 (fun hH => ?_)
    case hS0 =>
      rw [← HW2.out]; exact I2.out
    rw [← HW2.out] at hH ⊢
    refine kY 0 hH ?_
    repeat simp only [Act.put, uA1, uB1, uC1]
    refine kY 1 hH ?_
    repeat simp only [Act.put, uA1, uB1, uC1]
    refine kY 2 hH ?_
    repeat simp only [Act.put, uA1, uB1, uC1]
    refine kN 3 hH ?_
    repeat simp only [Act.put, uA1, uB1, uC1]
    refine kN 4 hH ?_
    repeat simp only [Act.put, uA1, uB1, uC1]
    refine kN 5 hH ?_
    repeat simp only [Act.put, uA1, uB1, uC1]
    refine kN 6 hH ?_
    repeat simp only [Act.put, uA1, uB1, uC1]
    refine kN 7 hH ?_
    repeat simp only [Act.put, uA1, uB1, uC1]
    refine kN 8 hH ?_
    repeat simp only [Act.put, uA1, uB1, uC1]
    refine kN 9 hH ?_
    repeat simp only [Act.put, uA1, uB1, uC1]
    refine kY 10 hH ?_
    repeat simp only [Act.put, uA1, uB1, uC1]
    refine wpAnyH_done (by decide +kernel) ?_ _
    go_wp2_with fail
    go_ret
    exact ⟨1, rfl, .inr rfl, F1 ++ f :: F2, ⟨by simp, Nat.le_refl _⟩, D2.out, DkStep.below p m _ B2.out⟩
  · obtain ⟨kn, rfl⟩ : ∃ kn : Nat, k = kn := ⟨k.toNat, by omega⟩
    by_cases hgt : L < kn
    · have hgt' : (L : Int) < (kn : Int) := by omega
      refine region_go (fun w' => w'.cell? ⟨fb, 0, none⟩ = some (.slice pf L cf) ∧ w'.cell? ⟨bk, 0, none⟩ = some (.int .i64 kn)) (by kernel_rfl) ?hS0 (fun hH => ?_)
      case hS0 =>
        rw [← HW2.out]; exact I2.out
      rw [← HW2.out] at hH ⊢
      refine kY 0 hH ?_
      repeat simp only [Act.put, uA1, uB1, uC1]
      refine kY 1 hH ?_
      repeat simp only [Act.put, uA1, uB1, uC1]
      refine kY 2 hH ?_
      repeat simp only [Act.put, uA1, uB1, uC1]
      refine kY 3 hH ?_
      repeat simp only [Act.put, uA1, uB1, uC1]
      refine kY 4 hH ?_
      repeat simp only [Act.put, uA1, uB1, uC1]
      refine kY 5 hH ?_
      repeat simp only [Act.put, uA1, uB1, uC1]
      refine kY 6 hH ?_
      repeat simp only [Act.put, uA1, uB1, uC1]
      refine kY 7 hH ?_
      repeat simp only [Act.put, uA1, uB1, uC1]
      refine kY 8 hH ?_
      repeat simp only [Act.put, uA1, uB1, uC1]
      refine kY 9 hH ?_
      repeat simp only [Act.put, uA1, uB1, uC1]
      refine kY 10 hH ?_
      repeat simp only [Act.put, uA1, uB1, uC1]
      refine wpAnyH_done (by decide +kernel) ?_ _
      go_wp2_with fail
      go_ret
      exact ⟨1, rfl, .inr rfl, F1 ++ f :: F2, ⟨by simp, Nat.le_refl _⟩, D2.out, DkStep.below p m _ B2.out⟩
    · have hgt' : ¬ (L : Int) < (kn : Int) := by omega
      refine region_go (fun w' => w'.cell? ⟨fb, 0, none⟩ = some (.slice pf L cf) ∧ w'.cell? ⟨bk, 0, none⟩ = some (.int .i64 kn)) (by kernel_rfl) ?hS0 (fun hH => ?_)
      case hS0 =>
        rw [← HW2.out]; exact I2.out
      rw [← HW2.out] at hH ⊢
      refine kY 0 hH ?_
      repeat simp only [Act.put, uA1, uB1, uC1]
      refine kY 1 hH ?_
      repeat simp only [Act.put, uA1, uB1, uC1]
      refine kY 2 hH ?_
      repeat simp only [Act.put, uA1, uB1, uC1]
      refine kY 3 hH ?_
      repeat simp only [Act.put, uA1, uB1, uC1]
      refine kY 4 hH ?_
      repeat simp only [Act.put, uA1, uB1, uC1]
      refine kY 5 hH ?_
      repeat simp only [Act.put, uA1, uB1, uC1]
      refine kY 6 hH ?_
      repeat simp only [Act.put, uA1, uB1, uC1]
      refine kY 7 hH ?_
      repeat simp only [Act.put, uA1, uB1, uC1]
      refine kY 8 hH ?_
      repeat simp only [Act.put, uA1, uB1, uC1]
      refine kY 9 hH ?_
      repeat simp only [Act.put, uA1, uB1, uC1]
      refine kY 10 hH ?_
      repeat simp only [Act.put, uA1, uB1, uC1]
      refine wpAnyH_done (by decide +kernel) ?_ _
      go_wp2_with fail
      obtain ⟨W3, hW3⟩ : ∃ W3, W3 = W2.drew := ⟨_, rfl⟩
      have hb3 : Below W2.heap.size W2 W3 := by rw [hW3]; exact (Below.refl _ _).drew
      have D3 := Lib.hid (D2.out.below hb3)
      have x0 := below_cells hb3 I2.out.1
      have xk := below_cells hb3 I2.out.2
      have hfile : W3.heap[fb]? = some (.cells #[f.v, .int .i64 fi] 59 (0, 0)) := by rw [LN.out.2.1, LN.out.2.2]; exact D3.out.file f hf
      have x1 : W3.cell? ⟨fb, 1, none⟩ = some (.int .i64 fi) := cellsG hfile 1
      have z0 : W3.frozen? ⟨fb, 0, none⟩ = false := thawedG hfile 0
      have hs0 := setBlk hfile 0 (.slice pf kn cf)
      have z1 : (W3.setCell ⟨fb, 0, none⟩ (.slice pf kn cf)).frozen? ⟨fb, 1, none⟩ = false := thawedG hs0 1
      have y1 : (W3.setCell ⟨fb, 0, none⟩ (.slice pf kn cf)).cell? ⟨fb, 1, none⟩ = some (.int .i64 fi) := cellsG hs0 1
      have hbk : bk ≠ fb := by
        rintro rfl
        rw [x0] at xk
        cases xk
      have yk : (W3.setCell ⟨fb, 0, none⟩ (.slice pf kn cf)).cell? ⟨bk, 0, none⟩ = some (.int .i64 kn) := by
        rw [World.cell?_of_block (w := W3) (by rw [World.setCell]; simp [Array.getElem?_modify, Ne.symm hbk])]
        exact xk
      have hk1 : (0 : Int) ≤ kn ∧ (kn : Int) ≤ cf := by omega
      have htn : ((kn : Nat) : Int).toNat = kn := Int.toNat_natCast _
      obtain ⟨hDc, hSc⟩ := D3.out.cut FV.out kn (min f.firm kn) (by have := LN.out.1; omega) (by omega)
      have hmi : ((min f.firm kn : Nat) : Int) = min (fi : Int) kn := by have := LN.out.2.1; omega
      rw [← LN.out.2.2, hmi] at hDc hSc
      have RR := Lib.hid (And.intro hDc ((DkStep.below p m _ (B2.out.trans (hb3.mono B2.out.size))).trans hSc))
      have I3 := Lib.hid (And.intro x1 xk)
      have HW3 := Lib.hid hW3
      clear hW3 hb3 hfile hs0 hDc hSc hmi
      refine region_goN 19 (fun w' => w'.cell? ⟨fb, 1, none⟩ = some (.int .i64 fi) ∧ w'.cell? ⟨bk, 0, none⟩ = some (.int .i64 kn)) (by kernel_rfl) ?hS0 (fun hH => ?_)
      case hS0 =>
        rw [← HW3.out]; exact I3.out
      rw [← HW3.out] at hH ⊢
      refine kYN 0 hH ?_
      repeat simp only [Act.put, uA1, uB1, uC1]
      refine kYN 1 hH ?_
      repeat simp only [Act.put, uA1, uB1, uC1]
      refine kYN 2 hH ?_
      repeat simp only [Act.put, uA1, uB1, uC1]
      refine kYN 3 hH ?_
      repeat simp only [Act.put, uA1, uB1, uC1]
      refine kYN 4 hH ?_
      repeat simp only [Act.put, uA1, uB1, uC1]
      refine kYN 6 hH ?_
      repeat simp only [Act.put, uA1, uB1, uC1]
      refine kYN 8 hH ?_
      repeat simp only [Act.put, uA1, uB1, uC1]
      refine kYN 9 hH ?_
      repeat simp only [Act.put, uA1, uB1, uC1]
      refine kYN 10 hH ?_
      repeat simp only [Act.put, uA1, uB1, uC1]
      refine kYN 11 hH ?_
      repeat simp only [Act.put, uA1, uB1, uC1]
      refine kYN 12 hH ?_
      repeat simp only [Act.put, uA1, uB1, uC1]
      refine kYN 13 hH ?_
      repeat simp only [Act.put, uA1, uB1, uC1]
      refine spkN 5 rfl (by decide) (by decide +kernel) (by rfl) (fun K' hK => ?_)
      go_simp
      try dsimp only
      refine hK.out _ _ ?hS (fun hH' => ?_)
      case hS =>
        exact hH
      clear hK K' hH; have hH := hH'; clear hH'; repeat simp only [Act.put, uA1, uB1, uC1]
      refine kYN 7 hH ?_
      repeat simp only [Act.put, uA1, uB1, uC1]
      refine kYN 14 hH ?_
      repeat simp only [Act.put, uA1, uB1, uC1]
      refine kYN 15 hH ?_
      repeat simp only [Act.put, uA1, uB1, uC1]
      refine spkN 16 rfl (by decide) (by decide +kernel) (by rfl) (fun K' hK => ?_)
      go_simp
      try dsimp only
      refine hK.out _ _ ?hS (fun hH' => ?_)
      case hS =>
        exact ⟨y1, yk⟩
      clear hK K' hH; have hH := hH'; clear hH'; repeat simp only [Act.put, uA1, uB1, uC1]
      refine spkN 17 rfl (by decide) (by decide +kernel) (by rfl) (fun K' hK => ?_)
      go_simp
      try dsimp only
      refine hK.out _ _ ?hS (fun hH' => ?_)
      case hS =>
        exact hH
      clear hK K' hH; have hH := hH'; clear hH'; repeat simp only [Act.put, uA1, uB1, uC1]
      refine kYN 18 hH ?_
      repeat simp only [Act.put, uA1, uB1, uC1]
      refine spkL rfl (by decide +kernel) (by rfl) (fun K' hK => ?_)
      go_simp
      try dsimp only
      refine hK.out _ _ ?_
      clear hK K' hH; repeat simp only [Act.put, uA1, uB1, uC1]
      refine anyBut_done (by decide +kernel) ?_ _
      go_wp2_with fail
      go_ret
      exact ⟨0, rfl, .inl rfl, _, ⟨by simp [cutTo], by rw [usedF_mid, usedF_mid]; simp [cutTo]; omega⟩, RR.out⟩

set_option maxHeartbeats 4000000 in
theorem dkTrim (w : World) (B p m : Nat) (left : Int) (down : Bool) (room : Int) (F : List Fz) (h : DkAt w B p m left down room F) (hl : -1 ≤ left ∧ left ≤ 9223372036854775807) (name : List UInt8) (k : Int) (hlen : ∀ f ∈ F, f.bytes.length ≤ 1000000000) :
    Calls Try.prog 21 #[.pointer (some ⟨p, 0, none⟩), strV name, .int .i64 k] w fun e w' => ∃ z : Int, e = .returned (.int .i64 z) ∧ (z = 9 ↔ (spendZ left down).1 = false) ∧ ∃ F', ((spendZ left down).1 = false → F'.map plain = F.map plain) ∧ (F'.length = F.length ∧ usedF F' ≤ usedF F) ∧
      DkAt w' B p m (spendZ left down).2.1 (spendZ left down).2.2 room F' ∧ DkStep w w' p m F F' := by
  obtain ⟨sn, hsn⟩ : ∃ sn : ByteArray, sn = ⟨name.toArray⟩ := ⟨_, rfl⟩
  have hst : strV name = .string sn := by rw [hsn]; rfl
  rw [hst]
  obtain ⟨W3, hW3⟩ : ∃ W3, W3 = boxes3 w (.pointer (some ⟨p, 0, none⟩)) (.string sn) (.int .i64 k) 25 9 3 := ⟨_, rfl⟩
  obtain ⟨hb3, cd, cn, ck, hsz⟩ := boxes3_cells w (.pointer (some ⟨p, 0, none⟩)) (.string sn) (.int .i64 k) 25 9 3
  rw [← hW3] at hb3 cd cn ck hsz
  obtain ⟨W4, hW4⟩ : ∃ W4, W4 = W3.alloc (.cells #[.string sn] 9) := ⟨_, rfl⟩
  have hb34 : Below W3.heap.size W3 W4 := by rw [hW4]; exact (Below.refl _ _).alloc (Nat.le_refl _) _
  have hb4 : Below w.heap.size w W4 := hb3.trans (hb34.mono hb3.size)
  have hh : W4.heap[w.heap.size + 3]? = some (.cells #[strV name] 9 (0, 0)) := by rw [hW4, ← hsz, hst]; exact heap_alloc_new _ _
  have h4 := h.below hb4
  have hpl : p < w.heap.size := (h.lt p (.inl rfl)).2
  have hNa : ∀ W, Mod (fun j => j = p) W4 W → Strs W (.slice (some ⟨w.heap.size + 3, 0, none⟩) 1 1) [name] := by
    intro W hM
    have k0 := (hM.block (w.heap.size + 3) (lt_block hh) (by omega)).trans hh
    exact lit_reads (us := [strV name]) k0 (by simp)
  have d4 := below_cells hb34 cd
  have n4 := below_cells hb34 cn
  have k4 := below_cells hb34 ck
  obtain ⟨Q, hQ⟩ : ∃ Q : Int → List Fz → Prop, Q = fun z F' => (z = 9 ↔ (spendZ left down).1 = false) ∧ ((spendZ left down).1 = false → F'.map plain = F.map plain) ∧ (F'.length = F.length ∧ usedF F' ≤ usedF F) := ⟨_, rfl⟩
  have hc := dkChange W4 B p m left down room F h4 hl 33 (enters_of Try.func33 (by kernel_rfl) rfl) #[.pointer (some ⟨w.heap.size, 0, none⟩), .pointer (some ⟨w.heap.size + 1, 0, none⟩), .pointer (some ⟨w.heap.size + 2, 0, none⟩)] (.slice (some ⟨w.heap.size + 3, 0, none⟩) 1 1) [name]
    hNa
    (fun z w' => ∃ F', Q z F' ∧ DkAt w' B p m (spendZ left down).2.1 (spendZ left down).2.2 room F' ∧ DkStep W4 w' p m F F')
    (fun hs W hD hM => ⟨F, by rw [hQ]; simp [hs], hD, DkStep.power p m F hM⟩)
    (fun hs hx W hD hM => ⟨F, by rw [hQ]; simp [hs], hD, DkStep.power p m F hM⟩)
    (fun hs hx W hD hM => by
      obtain ⟨F1, f, F2, hF, hnm⟩ := in_split (by simpa using hx)
      refine (dkTrim1 W B p m _ _ room F F1 F2 f hD hF w.heap.size (w.heap.size + 1) (w.heap.size + 2) name k (cell_power hM d4 (by simp; omega)) (cell_power hM (hst ▸ n4) (by simp; omega)) (cell_power hM k4 (by simp; omega)) hnm (hlen f (by rw [hF]; simp))).mono ?_
      rintro e w' ⟨z, rfl, hz, F', hF', hD', hS'⟩
      exact ⟨z, rfl, F', by rw [hQ]; simp only [hs]; refine ⟨⟨fun e => (by omega), fun e => (by cases e)⟩, fun e => (by cases e), hF'⟩, hD', (DkStep.power p m F hM).trans hS'⟩)
  have HW := Lib.hid (hW4.trans (congrArg (fun W : World => W.alloc (.cells #[.string sn] 9)) hW3))
  have hB := Lib.hid hb4
  unfold boxes3 at HW
  have HG := Lib.hid (show ∀ z F', Q z F' → (z = 9 ↔ (spendZ left down).1 = false) ∧ ((spendZ left down).1 = false → F'.map plain = F.map plain) ∧ (F'.length = F.length ∧ usedF F' ≤ usedF F) from by rw [hQ]; exact fun _ _ h => h)
  clear hQ hW3 hW4 hb3 hb34 hb4 cd cn ck d4 n4 k4 hsz h4 hpl h hlen hh hNa hst hsn
  refine Calls.mono (R := fun e w' => ∃ z, e = .returned (.int .i64 z) ∧ ∃ F', Q z F' ∧ DkAt w' B p m (spendZ left down).2.1 (spendZ left down).2.2 room F' ∧ DkStep w w' p m F F') ?_ ?_
  · go_enter Try.func21, Try.ntmps21
    go_wp2_with (go_at_call 23; rw [← HW.out]; refine hc.mono ?_; rintro e w' ⟨z, rfl, F', hq, hD, hS⟩; have R := Lib.hid (And.intro hq (And.intro hD hS)); clear hq hD hS)
    go_ret
    exact ⟨z, rfl, F', R.out.1, R.out.2.1, (DkStep.below p m F hB.out).trans R.out.2.2⟩
  · rintro e w' ⟨z, rfl, F', hq, hD, hS⟩
    obtain ⟨h1, h2, h3⟩ := HG.out _ _ hq
    exact ⟨z, rfl, h1, F', h2, h3, hD, hS⟩

end Go.Proofs.Ytdcgooleiefljaa
