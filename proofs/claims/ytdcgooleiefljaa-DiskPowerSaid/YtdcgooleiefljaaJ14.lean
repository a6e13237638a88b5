/-
  disk: Firm.
-/
import Derived.Test.YtdcgooleiefljaaJ13
namespace Go.Proofs.Ytdcgooleiefljaa
open Go.RowKit Go.ChangeMaps Go.Shelf

def firm1 (n : List UInt8) (s : List UInt8 × List UInt8 × Nat) : List UInt8 × List UInt8 × Nat := if s.1 = n then (s.1, s.2.1, s.2.1.length) else s

def firmS (S : List (List UInt8 × List UInt8 × Nat)) (ns : List (List UInt8)) : List (List UInt8 × List UInt8 × Nat) := ns.foldl (fun S n => S.map (firm1 n)) S

theorem firmS_snoc (S : List (List UInt8 × List UInt8 × Nat)) (ns : List (List UInt8)) (n : List UInt8) : firmS S (ns ++ [n]) = (firmS S ns).map (firm1 n) := by
  unfold firmS
  rw [List.foldl_append]
  rfl

/-- one file of several is turned; the others have other names -/
theorem map_mid {F1 F2 : List Fz} {f f' : Fz} (g : List UInt8 × List UInt8 × Nat → List UInt8 × List UInt8 × Nat) (hn : ((F1 ++ f :: F2).map (·.name)).Nodup) (hg : ∀ s, s.1 ≠ f.name → g s = s) (hf : plain f' = g (plain f)) : (F1 ++ f' :: F2).map plain = ((F1 ++ f :: F2).map plain).map g := by
  rw [List.map_append, List.map_cons, List.nodup_append, List.nodup_cons] at hn
  simp only [List.map_append, List.map_cons, List.map_map, hf]
  congr 1
  · refine List.map_congr_left fun x hx => ?_
    exact (hg (plain x) fun e => hn.2.2 _ (List.mem_map.2 ⟨x, hx, rfl⟩) f.name (by simp) e).symm
  · congr 1
    refine List.map_congr_left fun x hx => ?_
    exact (hg (plain x) fun e => hn.2.1.1 (List.mem_map.2 ⟨x, hx, e⟩)).symm

/-- strings and pointers are no file's cells -/
theorem DkAt.noFile {w : World} {B p m : Nat} {left : Int} {down : Bool} {room : Int} {F : List Fz} (h : DkAt w B p m left down room F) {f : Fz} (hf : f ∈ F) {a : Addr} {u : Value} (hc : w.cell? a = some u) (hu : (∃ s, u = .string s) ∨ ∃ q, u = .pointer q) : a.block ≠ f.blk := by
  intro e
  obtain ⟨pf, nf, cf, hv⟩ := own_form (h.row f hf)
  have h1 := h.file f hf
  rw [hv] at h1
  simp only [World.cell?, e, h1] at hc
  split at hc
  · cases hc
  rw [Array.getElem?_eq_some_iff] at hc
  obtain ⟨h2, h3⟩ := hc
  have h4 : a.off = 0 ∨ a.off = 1 := by simp at h2; omega
  rcases hu with ⟨s, rfl⟩ | ⟨q, rfl⟩ <;> rcases h4 with h4 | h4 <;> simp [h4] at h3

/-- a file's bytes are firm -/
theorem DkAt.firmed {w : World} {B p m : Nat} {left : Int} {down : Bool} {room : Int} {F1 F2 : List Fz} {f : Fz} (h : DkAt w B p m left down room (F1 ++ f :: F2)) (n : Nat) (hn : n ≤ f.bytes.length) :
    DkAt (w.setCell ⟨f.blk, 1, none⟩ (.int .i64 n)) B p m left down room (F1 ++ { f with firm := n } :: F2) ∧ DkStep w (w.setCell ⟨f.blk, 1, none⟩ (.int .i64 n)) p m (F1 ++ f :: F2) (F1 ++ { f with firm := n } :: F2) := by
  have hf : f ∈ F1 ++ f :: F2 := by simp
  have hset := setBlk (h.file f hf) 1 (.int .i64 n)
  obtain ⟨-, -, n3, -, -⟩ := h.own_not hf
  refine h.put { f with firm := n } rfl rfl ((Mod.refl _ w).setCell (p := ⟨f.blk, 1, none⟩) (.inl (.inl rfl)) _) (by simpa using hset) ?_ (.inl rfl) hn
  exact own_agree (h.row f hf) fun k hk => by
    rw [World.setCell]
    have : k ≠ f.blk := fun e => n3 (e ▸ hk)
    simp [Array.getElem?_modify, Ne.symm this]

theorem inF_names {F G : List Fz} (h : F.map (·.name) = G.map (·.name)) (n : List UInt8) : inF F n = inF G n := by
  have h1 : ∀ F : List Fz, inF F n = (F.map (·.name)).any fun x => decide (x = n) := by
    intro F
    unfold inF
    rw [List.any_map]
    rfl
  rw [h1, h1, h]

set_option maxHeartbeats 4000000 in
theorem dkFirm1 (W : World) (B p m : Nat) (left : Int) (down : Bool) (room : Int) (F : List Fz) (h : DkAt W B p m left down room F) (bn bd : Nat) (nv : Value) (names : List (List UInt8)) (hn : Strs W nv names) (cn : W.cell? ⟨bn, 0, none⟩ = some nv) (cd : W.cell? ⟨bd, 0, none⟩ = some (.pointer (some ⟨p, 0, none⟩)))
    (hx : names.all (inF F) = true) :
    Calls Try.prog 30 #[.pointer (some ⟨bn, 0, none⟩), .pointer (some ⟨bd, 0, none⟩)] W fun e w' => ∃ z, e = .returned (.int .i64 z) ∧ ∃ F', z = 0 ∧ F'.map plain = firmS (F.map plain) names ∧ DkAt w' B p m left down room F' ∧ DkStep W w' p m F F' := by
  obtain ⟨np, ncap, rfl, hN⟩ := hn.form
  obtain ⟨k, hk⟩ : ∃ k, k = names.length := ⟨_, rfl⟩
  rw [← hk] at cn hN hn
  have HK := Lib.hid hk
  have HN := Lib.hid hn
  have HC := Lib.hid cd
  have H := Lib.hid h
  have HX := Lib.hid hx
  clear hn hk h cd hx
  go_enter Try.func30, Try.ntmps30
  go_wp2_with fail
  go_loopg [4, 7] k (fun q _ i wr => ∃ (j : Nat) (Fj : List Fz), q = k - j ∧ j ≤ k ∧ i = .int .i64 j ∧ Fj.map plain = firmS (F.map plain) (names.take j) ∧ Fj.map (·.name) = F.map (·.name) ∧ DkAt wr B p m left down room Fj ∧ DkStep W wr p m F Fj ∧ ∀ (a : Addr) (u : Value), ((∃ s, u = .string s) ∨ ∃ q, u = .pointer q) → W.cell? a = some u → wr.cell? a = some u)
  case atStart => exact ⟨0, F, rfl, by omega, rfl, rfl, rfl, H.out, DkStep.refl _ _ _ _, fun _ _ _ h => h⟩
  case round =>
    obtain ⟨j, Fj, rfl, hj, rfl, hpl, hnm, hD, hS, hK⟩ := hrel
    by_cases hlt : j < k
    · have hlt' : j < names.length := by have := HK.out; omega
      obtain ⟨b, off, rfl, hcell⟩ := HN.out.one (j := j) (by simpa using hlt')
      rw [List.getElem_map] at hcell
      replace hcell := hK _ _ (.inl ⟨_, rfl⟩) hcell
      have cd := hK _ _ (.inr ⟨_, rfl⟩) HC.out
      obtain ⟨x, hx⟩ : ∃ x, x = names[j] := ⟨_, rfl⟩
      replace hcell : wr.cell? ⟨b, off + j, none⟩ = some (strV x) := by rw [hx]; exact hcell
      have hin : inF Fj x = true := by
        rw [inF_names hnm, hx]
        exact List.all_eq_true.1 HX.out _ (List.getElem_mem _)
      obtain ⟨F1, f, F2, rfl, rfl⟩ := in_split hin
      have hf : f ∈ F1 ++ f :: F2 := by simp
      obtain ⟨Wd, hWd⟩ : ∃ Wd, Wd = wr.drew := ⟨_, rfl⟩
      have hbd : Below wr.heap.size wr Wd := by rw [hWd]; exact (Below.refl _ _).drew
      have hD' := hD.below hbd
      obtain ⟨hD1, hS1⟩ := hD'.firmed f.bytes.length (Nat.le_refl _)
      obtain ⟨pf, nf, cf, hfv⟩ := own_form (hD'.row f hf)
      have hrow := hD'.row f hf
      rw [hfv] at hrow
      obtain rfl : nf = f.bytes.length := own_len hrow
      have L0 := hD'.look f.name
      rw [hD'.look_mid] at L0
      have c0 : Wd.cell? ⟨f.blk, 0, none⟩ = some (.slice pf f.bytes.length cf) := by simp [World.cell?, hD'.file f hf, hfv]
      have hfz : Wd.frozen? ⟨f.blk, 1, none⟩ = false := by simp [World.frozen?, hD'.file f hf]
      have c1 : Wd.cell? ⟨f.blk, 1, none⟩ = some (.int .i64 f.firm) := by simp [World.cell?, hD'.file f hf]
      have c3 : Wd.cell? ⟨p, 3, none⟩ = some (.map (some m)) := by simp [World.cell?, hD'.cell]
      have I0 := Lib.hid (And.intro (below_cells hbd cd) (And.intro c3 (And.intro L0 c0)))
      have A := Lib.hid (show (F1 ++ { f with firm := f.bytes.length } :: F2).map plain = firmS (F.map plain) (names.take (j + 1)) ∧ (F1 ++ { f with firm := f.bytes.length } :: F2).map (·.name) = F.map (·.name) ∧ DkAt (Wd.setCell ⟨f.blk, 1, none⟩ (.int .i64 f.bytes.length)) B p m left down room (F1 ++ { f with firm := f.bytes.length } :: F2) ∧ DkStep W (Wd.setCell ⟨f.blk, 1, none⟩ (.int .i64 f.bytes.length)) p m F (F1 ++ { f with firm := f.bytes.length } :: F2) ∧
          ∀ (a : Addr) (u : Value), ((∃ s, u = .string s) ∨ ∃ q, u = .pointer q) → W.cell? a = some u → (Wd.setCell ⟨f.blk, 1, none⟩ (.int .i64 f.bytes.length)).cell? a = some u from by
        refine ⟨?_, by rw [← hnm]; simp, hD1, (hS.trans (DkStep.below p m _ hbd)).trans hS1, fun a u hu hc => ?_⟩
        · rw [List.take_succ_eq_append_getElem hlt', firmS_snoc, ← hx, ← hpl]
          exact map_mid _ hD.names (fun s hs => by simp [firm1, hs]) (by simp [firm1, plain])
        · have h1 := below_cells hbd (hK a u hu hc)
          have h2 := hD'.noFile hf h1 hu
          rw [World.cell?_of_block (w := Wd) (by rw [World.setCell]; simp [Array.getElem?_modify, Ne.symm h2])]
          exact h1)
      have HWd := Lib.hid hWd
      obtain ⟨L, hL⟩ : ∃ L, L = f.bytes.length := ⟨_, rfl⟩
      obtain ⟨fb, hfb⟩ : ∃ fb, fb = f.blk := ⟨_, rfl⟩
      obtain ⟨xn, hxn⟩ : ∃ xn, xn = f.name := ⟨_, rfl⟩
      rw [← hL, ← hfb] at A
      rw [← hL, ← hfb, ← hxn] at I0
      rw [← hfb] at hfz c1
      rw [← hxn] at hcell
      have HH := Lib.hid (And.intro hL (And.intro hfb hxn))
      clear hWd hbd hD' hD1 hS1 hfv hrow L0 c0 c3 hD hS hK hpl hnm hin hx cd hL hfb hxn
      go_wp2_with fail
      refine region_goN 18 (fun w' => w'.cell? ⟨bd, 0, none⟩ = some (.pointer (some ⟨p, 0, none⟩)) ∧ w'.cell? ⟨p, 3, none⟩ = some (.map (some m)) ∧ (Instr.lookup 54 (.map (some m)) (strV xn) false).run Try.prog w' = .ok (.pointer (some ⟨fb, 0, none⟩)) w' ∧ w'.cell? ⟨fb, 0, none⟩ = some (.slice pf L cf)) (by kernel_rfl) ?hS0 (fun hH => ?_)
      case hS0 =>
        rw [← HWd.out]; exact I0.out
      rw [← HWd.out] at hH ⊢
      refine kYN 0 hH ?_
      repeat simp only [Act.put, uA1, uB1, uC1]
      refine kYN 1 hH ?_
      repeat simp only [Act.put, uA1, uB1, uC1]
      refine kYN 2 hH ?_
      repeat simp only [Act.put, uA1, uB1, uC1]
      refine kYN 3 hH ?_
      repeat simp only [Act.put, uA1, uB1, uC1]
      refine kYN 4 hH ?_
      repeat simp only [Act.put, uA1, uB1, uC1]
      refine kYN 5 hH ?_
      repeat simp only [Act.put, uA1, uB1, uC1]
      refine kYN 6 hH ?_
      repeat simp only [Act.put, uA1, uB1, uC1]
      refine kYN 7 hH ?_
      repeat simp only [Act.put, uA1, uB1, uC1]
      refine kYN 8 hH ?_
      repeat simp only [Act.put, uA1, uB1, uC1]
      refine kYN 9 hH ?_
      repeat simp only [Act.put, uA1, uB1, uC1]
      refine kYN 10 hH ?_
      repeat simp only [Act.put, uA1, uB1, uC1]
      refine kYN 11 hH ?_
      repeat simp only [Act.put, uA1, uB1, uC1]
      refine kYN 12 hH ?_
      repeat simp only [Act.put, uA1, uB1, uC1]
      refine kYN 13 hH ?_
      repeat simp only [Act.put, uA1, uB1, uC1]
      refine kYN 14 hH ?_
      repeat simp only [Act.put, uA1, uB1, uC1]
      refine kYN 15 hH ?_
      repeat simp only [Act.put, uA1, uB1, uC1]
      refine spkN 16 rfl (by decide) (by decide +kernel) (by rfl) (fun K' hK => ?_)
      go_simp
      try dsimp only
      refine hK.out _ _ ?hS (fun hH' => ?_)
      case hS =>
        exact hH
      clear hK K' hH; have hH := hH'; clear hH'; repeat simp only [Act.put, uA1, uB1, uC1]
      refine kYN 17 hH ?_
      repeat simp only [Act.put, uA1, uB1, uC1]
      refine spkL rfl (by decide +kernel) (by rfl) (fun K' hK => ?_)
      go_simp
      try dsimp only
      refine hK.out _ _ ?_
      clear hK K' hH; repeat simp only [Act.put, uA1, uB1, uC1]
      refine anyBut_done (by decide +kernel) ?_ _
      go_wp2_with fail
      go_roundg (k - (j + 1))
      case measure => omega
      case rel => exact ⟨j + 1, _, rfl, by omega, by go_num, A.out⟩
    · obtain rfl : j = k := by omega
      have A := Lib.hid (And.intro hpl (And.intro hD hS))
      clear hpl hD hS hK hnm
      go_wp2_with fail
      go_ret
      have hfin : Fj.map plain = firmS (F.map plain) names := by have := A.out.1; rwa [HK.out, List.take_length] at this
      refine ⟨_, rfl, ?_⟩
      first
        | exact ⟨Fj, rfl, hfin, A.out.2.1, A.out.2.2⟩
        | exact ⟨rfl, Fj, hfin, A.out.2.1, A.out.2.2⟩

set_option maxHeartbeats 4000000 in
theorem dkFirm (w : World) (B p m : Nat) (left : Int) (down : Bool) (room : Int) (F : List Fz) (h : DkAt w B p m left down room F) (hl : -1 ≤ left ∧ left ≤ 9223372036854775807) (nv : Value) (names : List (List UInt8)) (hn : ∀ W, Mod (fun j => j = p) w W → Strs W nv names) :
    Calls Try.prog 14 #[.pointer (some ⟨p, 0, none⟩), nv] w fun e w' =>
      Changed w B p m (spendZ left down).2.1 (spendZ left down).2.2 room F (if (spendZ left down).1 then (if thereZ (F.map plain) names then 0 else 6) else 9) (if (spendZ left down).1 && thereZ (F.map plain) names then firmS (F.map plain) names else F.map plain) e w' := by
  obtain ⟨W3, hW3⟩ : ∃ W3, W3 = boxes2 w (.pointer (some ⟨p, 0, none⟩)) nv 25 29 := ⟨_, rfl⟩
  obtain ⟨hb3, cd, cn, hsz⟩ := boxes2_cells w (.pointer (some ⟨p, 0, none⟩)) nv 25 29
  rw [← hW3] at hb3 cd cn hsz
  have h3 := h.below hb3
  have hlt := h.lt
  have hpl : p < w.heap.size := (hlt p (.inl rfl)).2
  have hmod : ∀ W, Mod (fun j => j = p) W3 W → Mod (fun j => j = p) w W := fun W hM => (Mod.of_below hb3).trans hM fun k _ e => e
  have hc := dkChange W3 B p m left down room F h3 hl 30 (enters_of Try.func30 (by kernel_rfl) rfl) #[.pointer (some ⟨w.heap.size + 1, 0, none⟩), .pointer (some ⟨w.heap.size, 0, none⟩)] nv names
    (fun W hM => hn W (hmod W hM))
    (fun z w' => ∃ F', z = (if (spendZ left down).1 then (if thereZ (F.map plain) names then 0 else 6) else 9) ∧ F'.map plain = (if (spendZ left down).1 && thereZ (F.map plain) names then firmS (F.map plain) names else F.map plain) ∧ DkAt w' B p m (spendZ left down).2.1 (spendZ left down).2.2 room F' ∧ DkStep W3 w' p m F F')
    (fun hs W hD hM => ⟨F, by simp [hs], by simp [hs], hD, DkStep.power p m F hM⟩)
    (fun hs hx W hD hM => ⟨F, by rw [← all_plain]; simp [hs, hx], by rw [← all_plain]; simp [hs, hx], hD, DkStep.power p m F hM⟩)
    (fun hs hx W hD hM => by
      refine (dkFirm1 W B p m _ _ room F hD (w.heap.size + 1) w.heap.size nv names (hn W (hmod W hM)) (cell_power hM cn (by simp; omega)) (cell_power hM cd (by simp; omega)) hx).mono ?_
      rintro e w' ⟨z, rfl, F', rfl, hF, hD', hS'⟩
      refine ⟨0, rfl, F', ?_, ?_, hD', (DkStep.power p m F hM).trans hS'⟩
      · rw [← all_plain]; simp [hs, hx]
      · rw [← all_plain, hF]; simp [hs, hx])
  obtain ⟨np, ncap, rfl, -⟩ := (hn w (Mod.refl _ _)).form
  have HW := Lib.hid hW3
  have hB := Lib.hid hb3
  unfold boxes2 at HW
  clear hW3 hb3 cd cn hsz h3 hlt hpl h hn hmod
  generalize (if (spendZ left down).1 = true then (if thereZ (F.map plain) names = true then (0 : Int) else 6) else 9) = z0 at hc ⊢
  generalize (if ((spendZ left down).1 && thereZ (F.map plain) names) = true then firmS (F.map plain) names else F.map plain) = S0 at hc ⊢
  go_enter Try.func14, Try.ntmps14
  go_wp2_with (go_at_call 23; rw [← HW.out]; refine hc.mono ?_; rintro e w' ⟨z, rfl, F', rfl, hF, hD, hS⟩; have R := Lib.hid (And.intro hF (And.intro hD hS)); clear hF hD hS)
  go_ret
  exact ⟨rfl, F', R.out.1, R.out.2.1, (DkStep.below p m F hB.out).trans R.out.2.2⟩

end Go.Proofs.Ytdcgooleiefljaa
