/-
  disk: Swap.
-/
import Derived.Test.YtdcgooleiefljaaJ15
import Derived.Test.YtdcgooleiefljaaJ11
namespace Go.Proofs.Ytdcgooleiefljaa
open Go.RowKit Go.ChangeMaps Go.Shelf

/-- one store: fewer bytes, as many firm -/
theorem DkAt.cut1 {w : World} {B p m : Nat} {left : Int} {down : Bool} {room : Int} {F1 F2 : List Fz} {f : Fz} (h : DkAt w B p m left down room (F1 ++ f :: F2)) {q : Option Addr} {c : Nat} (hv : f.v = .slice q f.bytes.length c) (k : Nat) (hk : k ≤ f.bytes.length) (hn : f.firm ≤ k) :
    DkAt (w.setCell ⟨f.blk, 0, none⟩ (.slice q k c)) B p m left down room (F1 ++ cutTo f (.slice q k c) k f.firm :: F2) ∧ DkStep w (w.setCell ⟨f.blk, 0, none⟩ (.slice q k c)) p m (F1 ++ f :: F2) (F1 ++ cutTo f (.slice q k c) k f.firm :: F2) := by
  have hf : f ∈ F1 ++ f :: F2 := by simp
  have hset := setBlk (h.file f hf) 0 (.slice q k c)
  obtain ⟨-, -, n3, -, -⟩ := h.own_not hf
  have hrow := h.row f hf
  rw [hv] at hrow n3
  have hown := own_cut hrow hk
  have hob : (Value.slice q k c).ownBlock = (Value.slice q f.bytes.length c).ownBlock := by rcases q with _ | ⟨b, o, s⟩ <;> simp [Value.ownBlock]
  refine h.put (cutTo f (.slice q k c) k f.firm) rfl rfl ((Mod.refl _ w).setCell (p := ⟨f.blk, 0, none⟩) (.inl (.inl rfl)) _) (by simpa [cutTo] using hset) ?_ (.inl (by rw [hv]; exact hob)) (by simp [cutTo]; omega)
  have h1 := own_agree (w' := w.setCell ⟨f.blk, 0, none⟩ (.slice q k c)) hown fun j hj => by
    have : j ≠ f.blk := fun e => n3 (e ▸ (hob ▸ hj))
    simp [World.setCell, Array.getElem?_modify, Ne.symm this]
  have e : (f.bytes.take k).length = k := by simp; omega
  simp only [cutTo, e]
  rw [List.map_take]
  exact h1

/-- what a Swap leaves of the files -/
theorem swap_plain {F1 F2 : List Fz} {f f' : Fz} (hn : f'.name = f.name) : ((F1 ++ f' :: F2).map plain).filter (fun s => decide (s.1 ≠ f.name)) = ((F1 ++ f :: F2).map plain).filter fun s => decide (s.1 ≠ f.name) := by
  simp [plain, hn]


set_option maxHeartbeats 4000000 in
/-- no name -/
theorem dkSwap_form (W : World) (B p m : Nat) (left : Int) (down : Bool) (room : Int) (F : List Fz) (h : DkAt W B p m left down room F) (bd bf bt : Nat) (frm nto : List UInt8) (cd : W.cell? ⟨bd, 0, none⟩ = some (.pointer (some ⟨p, 0, none⟩))) (cf : W.cell? ⟨bf, 0, none⟩ = some (strV frm)) (ct : W.cell? ⟨bt, 0, none⟩ = some (strV nto)) (hrz : rightZ nto = false) :
    Calls Try.prog 31 #[.pointer (some ⟨bd, 0, none⟩), .pointer (some ⟨bf, 0, none⟩), .pointer (some ⟨bt, 0, none⟩)] W fun e w' => e = .returned (.int .i64 4) ∧ Below W.heap.size W w' := by
  have H := Lib.hid h
  obtain ⟨lv, hlv⟩ : ∃ lv, lv = (getK (filesL F) frm).getD (.pointer none) := ⟨_, rfl⟩
  have LV := Lib.hid hlv.symm
  clear hlv h
  obtain ⟨W1, hW1⟩ : ∃ W1, W1 = W.drew := ⟨_, rfl⟩
  have hb1 : Below W.heap.size W W1 := by rw [hW1]; exact (Below.refl _ _).drew
  have D1 := Lib.hid (H.out.below hb1)
  have c3 : W1.cell? ⟨p, 3, none⟩ = some (.map (some m)) := by simp [World.cell?, D1.out.cell]
  have L1 := D1.out.look frm
  rw [LV.out] at L1
  have I1 := Lib.hid (And.intro (below_cells hb1 cd) (And.intro c3 (And.intro (below_cells hb1 cf) L1)))
  have ct1 := below_cells hb1 ct
  have cd1 := Lib.hid (below_cells hb1 cd)
  have cf1 := Lib.hid (below_cells hb1 cf)
  have ct1' := Lib.hid ct1
  have S1 := Lib.hid hb1
  have HW1 := Lib.hid hW1
  clear hW1 hb1 c3 L1 cd cf ct
  go_enter Try.func31, Try.ntmps31
  go_wp2_with fail
  refine region_go (fun w' => w'.cell? ⟨bd, 0, none⟩ = some (.pointer (some ⟨p, 0, none⟩)) ∧ w'.cell? ⟨p, 3, none⟩ = some (.map (some m)) ∧ w'.cell? ⟨bf, 0, none⟩ = some (strV frm) ∧ (Instr.lookup 54 (.map (some m)) (strV frm) false).run Try.prog w' = .ok lv w') (by kernel_rfl) ?hS0 (fun hH => ?_)
  case hS0 =>
    rw [← HW1.out]; exact I1.out
  rw [← HW1.out] at hH ⊢
  refine kY 0 hH ?_
  repeat simp only [Act.put, uA1, uB1, uC1]
  refine kY 1 hH ?_
  repeat simp only [Act.put, uA1, uB1, uC1]
  refine kY 2 hH ?_
  repeat simp only [Act.put, uA1, uB1, uC1]
  refine kY 3 hH ?_
  repeat simp only [Act.put, uA1, uB1, uC1]
  refine kY 4 hH ?_
  repeat simp only [Act.put, uA1, uB1, uC1]
  refine kY 5 hH ?_
  repeat simp only [Act.put, uA1, uB1, uC1]
  refine kY 6 hH ?_
  repeat simp only [Act.put, uA1, uB1, uC1]
  refine wpAnyH_done (by decide +kernel) ?_ _
  go_wp2_with (go_at_call 26; refine (dkRight W1 nto).mono ?_; rintro e w2 ⟨rfl, hb2⟩; have S2 := Lib.hid hb2; rw [hrz]; clear hb2)
  go_ret
  exact ⟨rfl, S1.out.trans (S2.out.mono S1.out.size)⟩

set_option maxHeartbeats 4000000 in
/-- no such file -/
theorem dkSwap_none (W : World) (B p m : Nat) (left : Int) (down : Bool) (room : Int) (F : List Fz) (h : DkAt W B p m left down room F) (bd bf bt : Nat) (frm nto : List UInt8) (cd : W.cell? ⟨bd, 0, none⟩ = some (.pointer (some ⟨p, 0, none⟩))) (cf : W.cell? ⟨bf, 0, none⟩ = some (strV frm)) (ct : W.cell? ⟨bt, 0, none⟩ = some (strV nto)) (hrz : rightZ nto = true) (hno : inF F frm = false) :
    Calls Try.prog 31 #[.pointer (some ⟨bd, 0, none⟩), .pointer (some ⟨bf, 0, none⟩), .pointer (some ⟨bt, 0, none⟩)] W fun e w' => e = .returned (.int .i64 6) ∧ Below W.heap.size W w' := by
  have H := Lib.hid h
  have LV := Lib.hid (look_out hno)
  clear h hno
  obtain ⟨W1, hW1⟩ : ∃ W1, W1 = W.drew := ⟨_, rfl⟩
  have hb1 : Below W.heap.size W W1 := by rw [hW1]; exact (Below.refl _ _).drew
  have D1 := Lib.hid (H.out.below hb1)
  have c3 : W1.cell? ⟨p, 3, none⟩ = some (.map (some m)) := by simp [World.cell?, D1.out.cell]
  have L1 := D1.out.look frm
  rw [LV.out] at L1
  have I1 := Lib.hid (And.intro (below_cells hb1 cd) (And.intro c3 (And.intro (below_cells hb1 cf) L1)))
  have ct1 := below_cells hb1 ct
  have cd1 := Lib.hid (below_cells hb1 cd)
  have cf1 := Lib.hid (below_cells hb1 cf)
  have ct1' := Lib.hid ct1
  have S1 := Lib.hid hb1
  have HW1 := Lib.hid hW1
  clear hW1 hb1 c3 L1 cd cf ct
  go_enter Try.func31, Try.ntmps31
  go_wp2_with fail
  refine region_go (fun w' => w'.cell? ⟨bd, 0, none⟩ = some (.pointer (some ⟨p, 0, none⟩)) ∧ w'.cell? ⟨p, 3, none⟩ = some (.map (some m)) ∧ w'.cell? ⟨bf, 0, none⟩ = some (strV frm) ∧ (Instr.lookup 54 (.map (some m)) (strV frm) false).run Try.prog w' = .ok (.pointer none) w') (by kernel_rfl) ?hS0 (fun hH => ?_)
  case hS0 =>
    rw [← HW1.out]; exact I1.out
  rw [← HW1.out] at hH ⊢
  refine kY 0 hH ?_
  repeat simp only [Act.put, uA1, uB1, uC1]
  refine kY 1 hH ?_
  repeat simp only [Act.put, uA1, uB1, uC1]
  refine kY 2 hH ?_
  repeat simp only [Act.put, uA1, uB1, uC1]
  refine kY 3 hH ?_
  repeat simp only [Act.put, uA1, uB1, uC1]
  refine kY 4 hH ?_
  repeat simp only [Act.put, uA1, uB1, uC1]
  refine kY 5 hH ?_
  repeat simp only [Act.put, uA1, uB1, uC1]
  refine kY 6 hH ?_
  repeat simp only [Act.put, uA1, uB1, uC1]
  refine wpAnyH_done (by decide +kernel) ?_ _
  go_wp2_with (go_at_call 26; refine (dkRight W1 nto).mono ?_; rintro e w2 ⟨rfl, hb2⟩; have S2 := Lib.hid hb2; rw [hrz]; clear hb2)
  go_ret
  exact ⟨rfl, S1.out.trans (S2.out.mono S1.out.size)⟩

set_option maxRecDepth 100000 in
set_option maxHeartbeats 4000000 in
theorem dkSwap_yes (W : World) (B p m : Nat) (left : Int) (down : Bool) (room : Int) (F F1 F2 : List Fz) (f : Fz) (h : DkAt W B p m left down room F) (hF : F = F1 ++ f :: F2) (bd bf bt : Nat) (frm nto : List UInt8) (cd : W.cell? ⟨bd, 0, none⟩ = some (.pointer (some ⟨p, 0, none⟩))) (cf : W.cell? ⟨bf, 0, none⟩ = some (strV frm)) (ct : W.cell? ⟨bt, 0, none⟩ = some (strV nto)) (hrz : rightZ nto = true) (hnm : f.name = frm) (hlen : f.bytes.length ≤ 1000000000) :
    Calls Try.prog 31 #[.pointer (some ⟨bd, 0, none⟩), .pointer (some ⟨bf, 0, none⟩), .pointer (some ⟨bt, 0, none⟩)] W fun e w' => e = .returned (.int .i64 0) ∧
      ∃ F', F'.map plain = putS ((F.map plain).filter fun s => decide (s.1 ≠ frm)) (nto, f.bytes.take f.firm, f.firm) ∧ DkAt w' B p m left down room F' ∧ DkStep W w' p m F F' := by
  subst hF
  have hf : f ∈ F1 ++ f :: F2 := by simp
  have LV := Lib.hid (show (getK (filesL (F1 ++ f :: F2)) frm).getD (.pointer none) = .pointer (some ⟨f.blk, 0, none⟩) from by rw [← hnm]; exact h.look_mid)
  obtain ⟨F, hF⟩ : ∃ F, F = F1 ++ f :: F2 := ⟨_, rfl⟩
  rw [← hF] at h LV hf ⊢
  have H := Lib.hid h
  have HF := Lib.hid hF
  have NM := Lib.hid hnm
  have LE := Lib.hid hlen
  have FM := Lib.hid hf
  clear h hF hnm hlen hf
  obtain ⟨W1, hW1⟩ : ∃ W1, W1 = W.drew := ⟨_, rfl⟩
  have hb1 : Below W.heap.size W W1 := by rw [hW1]; exact (Below.refl _ _).drew
  have D1 := Lib.hid (H.out.below hb1)
  have c3 : W1.cell? ⟨p, 3, none⟩ = some (.map (some m)) := by simp [World.cell?, D1.out.cell]
  have L1 := D1.out.look frm
  rw [LV.out] at L1
  have I1 := Lib.hid (And.intro (below_cells hb1 cd) (And.intro c3 (And.intro (below_cells hb1 cf) L1)))
  have ct1 := below_cells hb1 ct
  have cd1 := Lib.hid (below_cells hb1 cd)
  have cf1 := Lib.hid (below_cells hb1 cf)
  have ct1' := Lib.hid ct1
  have S1 := Lib.hid hb1
  have HW1 := Lib.hid hW1
  clear hW1 hb1 c3 L1 cd cf ct
  go_enter Try.func31, Try.ntmps31
  go_wp2_with fail
  refine region_go (fun w' => w'.cell? ⟨bd, 0, none⟩ = some (.pointer (some ⟨p, 0, none⟩)) ∧ w'.cell? ⟨p, 3, none⟩ = some (.map (some m)) ∧ w'.cell? ⟨bf, 0, none⟩ = some (strV frm) ∧ (Instr.lookup 54 (.map (some m)) (strV frm) false).run Try.prog w' = .ok (.pointer (some ⟨f.blk, 0, none⟩)) w') (by kernel_rfl) ?hS0 (fun hH => ?_)
  case hS0 =>
    rw [← HW1.out]; exact I1.out
  rw [← HW1.out] at hH ⊢
  refine kY 0 hH ?_
  repeat simp only [Act.put, uA1, uB1, uC1]
  refine kY 1 hH ?_
  repeat simp only [Act.put, uA1, uB1, uC1]
  refine kY 2 hH ?_
  repeat simp only [Act.put, uA1, uB1, uC1]
  refine kY 3 hH ?_
  repeat simp only [Act.put, uA1, uB1, uC1]
  refine kY 4 hH ?_
  repeat simp only [Act.put, uA1, uB1, uC1]
  refine kY 5 hH ?_
  repeat simp only [Act.put, uA1, uB1, uC1]
  refine kY 6 hH ?_
  repeat simp only [Act.put, uA1, uB1, uC1]
  refine wpAnyH_done (by decide +kernel) ?_ _
  go_wp2_with (go_at_call 26; refine (dkRight W1 nto).mono ?_; rintro e w2 ⟨rfl, hb2⟩; have S2 := Lib.hid hb2; rw [hrz]; clear hb2)
  -- the bytes are cut
  obtain ⟨W6, hW6⟩ : ∃ W6, W6 = w2.drew := ⟨_, rfl⟩
  have hb6 : Below W1.heap.size W1 W6 := by rw [hW6]; exact S2.out.drew
  have hD6 := D1.out.below hb6
  rw [HF.out] at hD6
  obtain ⟨pf, n, cf, hfv⟩ := own_form (hD6.row f (by simp))
  have hrow := hD6.row f (by simp)
  rw [hfv] at hrow
  obtain rfl : n = f.bytes.length := own_len hrow
  have hcap := own_cap hrow
  have hfi := hD6.firm f (by simp)
  obtain ⟨hDc, hSc⟩ := hD6.cut1 hfv f.firm hfi (Nat.le_refl _)
  have hcf : (0 : Int) ≤ (f.firm : Int) ∧ (f.firm : Int) ≤ cf := by omega
  have f0 : W6.cell? ⟨f.blk, 0, none⟩ = some (.slice pf f.bytes.length cf) := by simp [World.cell?, hD6.file f (by simp), hfv]
  have f1 : W6.cell? ⟨f.blk, 1, none⟩ = some (.int .i64 f.firm) := by simp [World.cell?, hD6.file f (by simp)]
  have fz : W6.frozen? ⟨f.blk, 0, none⟩ = false := by simp [World.frozen?, hD6.file f (by simp)]
  have htn : ((f.firm : Nat) : Int).toNat = f.firm := Int.toNat_natCast _
  have I6 := Lib.hid (And.intro f0 f1)
  have DC := Lib.hid (And.intro hDc hSc)
  have D6 := Lib.hid hD6
  have B6 := Lib.hid hb6
  have HW6 := Lib.hid hW6
  clear hW6 hb6 hD6 hrow hDc hSc f0 f1 hfv
  go_wp2_with fail
  refine region_goN 12 (fun w' => w'.cell? ⟨f.blk, 0, none⟩ = some (.slice pf f.bytes.length cf) ∧ w'.cell? ⟨f.blk, 1, none⟩ = some (.int .i64 f.firm)) (by kernel_rfl) ?hS0 (fun hH => ?_)
  case hS0 =>
    rw [← HW6.out]; exact I6.out
  rw [← HW6.out] at hH ⊢
  refine kYN 0 hH ?_
  repeat simp only [Act.put, uA1, uB1, uC1]
  refine kYN 1 hH ?_
  repeat simp only [Act.put, uA1, uB1, uC1]
  refine kYN 2 hH ?_
  repeat simp only [Act.put, uA1, uB1, uC1]
  refine kYN 3 hH ?_
  repeat simp only [Act.put, uA1, uB1, uC1]
  refine kYN 4 hH ?_
  repeat simp only [Act.put, uA1, uB1, uC1]
  refine kYN 5 hH ?_
  repeat simp only [Act.put, uA1, uB1, uC1]
  refine kYN 6 hH ?_
  repeat simp only [Act.put, uA1, uB1, uC1]
  refine kYN 7 hH ?_
  repeat simp only [Act.put, uA1, uB1, uC1]
  refine kYN 8 hH ?_
  repeat simp only [Act.put, uA1, uB1, uC1]
  refine kYN 9 hH ?_
  repeat simp only [Act.put, uA1, uB1, uC1]
  refine spkN 10 rfl (by decide) (by decide +kernel) (by rfl) (fun K' hK => ?_)
  go_simp
  try dsimp only
  refine hK.out _ _ ?hS (fun hH' => ?_)
  case hS =>
    exact hH
  clear hK K' hH; have hH := hH'; clear hH'; repeat simp only [Act.put, uA1, uB1, uC1]
  refine kYN 11 hH ?_
  repeat simp only [Act.put, uA1, uB1, uC1]
  refine spkL rfl (by decide +kernel) (by rfl) (fun K' hK => ?_)
  go_simp
  try dsimp only
  refine hK.out _ _ ?_
  clear hK K' hH; repeat simp only [Act.put, uA1, uB1, uC1]
  refine anyBut_done (by decide +kernel) ?_ _
  go_wp2_with fail
  -- the name goes
  obtain ⟨Wc, hWc⟩ : ∃ Wc, Wc = W6.setCell ⟨f.blk, 0, none⟩ (.slice pf f.firm cf) := ⟨_, rfl⟩
  have kc : ∀ (a : Addr) (u : Value), W1.cell? a = some u → ((∃ s, u = .string s) ∨ ∃ q, u = .pointer q) → Wc.cell? a = some u := fun a u hc hu => by
    have h1 := below_cells B6.out hc
    have h2 := D6.out.noFile (f := f) (by simp) h1 hu
    rw [hWc, World.cell?_of_block (w := W6) (by rw [World.setCell]; simp [Array.getElem?_modify, Ne.symm h2])]
    exact h1
  have kd := kc _ _ cd1.out (.inr ⟨_, rfl⟩)
  have kf := kc _ _ cf1.out (.inl ⟨_, rfl⟩)
  have kt := kc _ _ ct1'.out (.inl ⟨_, rfl⟩)
  have hDC := DC.out
  rw [← hWc] at hDC ⊢
  obtain ⟨W7, hW7⟩ : ∃ W7, W7 = Wc.drew := ⟨_, rfl⟩
  have hb7 : Below Wc.heap.size Wc W7 := by rw [hW7]; exact (Below.refl _ _).drew
  have hD7 := hDC.1.below hb7
  obtain ⟨w8, F8, hdel, hF8, hp8, hD8, hS8, hM8⟩ := hD7.strike frm
  have c37 : W7.cell? ⟨p, 3, none⟩ = some (.map (some m)) := by simp [World.cell?, hD7.cell]
  have I7 := Lib.hid (And.intro (below_cells hb7 kd) (And.intro c37 (below_cells hb7 kf)))
  have I7b := Lib.hid (And.intro (cell_map hD7.files hM8 I7.out.1) (And.intro (cell_map hD7.files hM8 I7.out.2.1) (cell_map hD7.files hM8 I7.out.2.2)))
  obtain ⟨W8, hW8⟩ : ∃ W8, W8 = w8.drew := ⟨_, rfl⟩
  have hb8 : Below w8.heap.size w8 W8 := by rw [hW8]; exact (Below.refl _ _).drew
  have hM78 : Mod (fun j => j = m) W7 W8 := hM8.trans (Mod.of_below (F := fun j => j = m) hb8) fun k _ e => e
  have hD88 := hD8.below hb8
  obtain ⟨w9, hput, hD9, hS9⟩ := hD7.renamed nto (by rw [hF8, ← NM.out]; rfl) hD88 hM78
  have c38 : W8.cell? ⟨p, 3, none⟩ = some (.map (some m)) := by simp [World.cell?, hD88.cell]
  have k8 : ∀ (a : Addr) (u : Value), W7.cell? a = some u → W8.cell? a = some u := fun a u hc => below_cells hb8 (cell_map hD7.files hM8 hc)
  have I8 := Lib.hid (And.intro (k8 _ _ (below_cells hb7 kd)) (And.intro c38 (k8 _ _ (below_cells hb7 kt))))
  have R := Lib.hid (show (putF F8 { cutTo f (.slice pf f.firm cf) f.firm f.firm with name := nto }).map plain = putS ((F.map plain).filter fun s => decide (s.1 ≠ frm)) (nto, f.bytes.take f.firm, f.firm) ∧ DkAt w9 B p m left down room (putF F8 { cutTo f (.slice pf f.firm cf) f.firm f.firm with name := nto }) ∧ DkStep W w9 p m F (putF F8 { cutTo f (.slice pf f.firm cf) f.firm f.firm with name := nto }) from by
    refine ⟨?_, hD9, ?_⟩
    · rw [putF_plain, hp8, HF.out, ← NM.out, swap_plain (f := f) (f' := cutTo f (.slice pf f.firm cf) f.firm f.firm) rfl]
      rfl
    · rw [HF.out]
      exact (((DkStep.below p m _ (S1.out.trans (B6.out.mono S1.out.size))).trans hDC.2).trans (DkStep.below p m _ hb7)).trans hS9)
  dsimp only [cutTo] at hput
  have HW7 := Lib.hid hW7
  have HW8 := Lib.hid hW8
  clear hWc kc kd kf kt hDC hW7 hb7 hD7 hF8 hp8 hD8 hS8 hM8 c37 hW8 hb8 hM78 hD88 hD9 hS9 c38 k8
  refine region_go (fun w' => w'.cell? ⟨bd, 0, none⟩ = some (.pointer (some ⟨p, 0, none⟩)) ∧ w'.cell? ⟨p, 3, none⟩ = some (.map (some m)) ∧ w'.cell? ⟨bf, 0, none⟩ = some (strV frm)) (by kernel_rfl) ?hS0 (fun hH => ?_)
  case hS0 =>
    rw [← HW7.out]; exact I7.out
  rw [← HW7.out] at hH ⊢
  refine kY 0 hH ?_
  repeat simp only [Act.put, uA1, uB1, uC1]
  refine kY 1 hH ?_
  repeat simp only [Act.put, uA1, uB1, uC1]
  refine kY 2 hH ?_
  repeat simp only [Act.put, uA1, uB1, uC1]
  refine kY 3 hH ?_
  repeat simp only [Act.put, uA1, uB1, uC1]
  refine kY 4 hH ?_
  repeat simp only [Act.put, uA1, uB1, uC1]
  refine spk 5 rfl (by decide +kernel) (by rfl) (fun K' hK => ?_)
  go_simp
  try dsimp only
  refine hK.out _ _ ?hS (fun hH' => ?_)
  case hS =>
    exact I7b.out
  clear hK K' hH; have hH := hH'; clear hH'; repeat simp only [Act.put, uA1, uB1, uC1]
  refine wpAnyH_done (by decide +kernel) ?_ _
  go_wp2_with fail
  refine region_goN 6 (fun w' => w'.cell? ⟨bd, 0, none⟩ = some (.pointer (some ⟨p, 0, none⟩)) ∧ w'.cell? ⟨p, 3, none⟩ = some (.map (some m)) ∧ w'.cell? ⟨bt, 0, none⟩ = some (strV nto)) (by kernel_rfl) ?hS0 (fun hH => ?_)
  case hS0 =>
    rw [← HW8.out]; exact I8.out
  rw [← HW8.out] at hH ⊢
  refine kYN 0 hH ?_
  repeat simp only [Act.put, uA1, uB1, uC1]
  refine kYN 1 hH ?_
  repeat simp only [Act.put, uA1, uB1, uC1]
  refine kYN 2 hH ?_
  repeat simp only [Act.put, uA1, uB1, uC1]
  refine kYN 3 hH ?_
  repeat simp only [Act.put, uA1, uB1, uC1]
  refine kYN 4 hH ?_
  repeat simp only [Act.put, uA1, uB1, uC1]
  refine kYN 5 hH ?_
  repeat simp only [Act.put, uA1, uB1, uC1]
  refine spkL rfl (by decide +kernel) (by rfl) (fun K' hK => ?_)
  go_simp
  try dsimp only
  refine hK.out _ _ ?_
  clear hK K' hH; repeat simp only [Act.put, uA1, uB1, uC1]
  refine anyBut_done (by decide +kernel) ?_ _
  go_wp2_with fail
  go_ret
  exact ⟨rfl, _, R.out⟩

end Go.Proofs.Ytdcgooleiefljaa
