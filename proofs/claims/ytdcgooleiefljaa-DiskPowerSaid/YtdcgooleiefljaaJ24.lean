/-
  disk's law: few.
-/
import Derived.Test.YtdcgooleiefljaaJ18
import Derived.Test.YtdcgooleiefljaaJ23
import Derived.Deep.DeepCutAuto
import Derived.Laws.CopyOwn
import Derived.Laws.Tables
import Derived.Laws.Rows
namespace Go.Proofs.Ytdcgooleiefljaa
open Go.RowKit Go.ChangeMaps Go.Shelf

/-- what few makes of a call -/
def Od.names4 (o : Od) : List (List UInt8) := (o.names.take 4).map (·.take 12)
def Od.parts4 (o : Od) : List (List UInt8) := (o.parts.take 4).map fun p => toB (p.take 200)

/-- rows of bytes of the call's own -/
def HeldB (w : World) (B : Nat) (us : List Value) (ls : List (List UInt8)) : Prop :=
  us.length = ls.length ∧ ∀ (i : Nat) u l, us[i]? = some u → ls[i]? = some l → w.ownsRow B 5 1 u l.length (l.map encB)

structure FewV (B : Nat) (w : World) (o : Od) (vn vp vk : Value) : Prop where
  names : w.ownsRow B 9 1 vn o.names4.length (o.names4.map strV)
  parts : ∃ us, w.ownsRow B 37 1 vp us.length us ∧ HeldB w B us o.parts4
  keep : w.ownsRow B 3 1 vk (o.keep.take 20).length ((o.keep.take 20).map (Value.int .i64))

theorem HeldB.below {w w' : World} {B : Nat} {us : List Value} {ls : List (List UInt8)} (h : HeldB w B us ls) (hb : Below w.heap.size w w') : HeldB w' B us ls :=
  ⟨h.1, fun i u l hu hl => own_below (h.2 i u l hu hl) hb⟩

theorem HeldB.kept {w w' : World} {B Bv n : Nat} {us xs : List Value} {ls : List (List UInt8)} {v : Value} (h : HeldB w B us ls) (hv : w.ownsRow Bv 37 1 v n xs) (hg : w.grownBy w' v.ownBlock) : HeldB w' B us ls :=
  ⟨h.1, fun i u l hu hl => (h.2 i u l hu hl).kept hg (by
    cases hb : u.ownBlock with
    | none => exact .inl rfl
    | some b =>
      refine .inr fun e => ?_
      exact absurd ((own_ty (h.2 i u l hu hl) hb).ne (own_ty hv e.symm)) (by decide))⟩

theorem HeldB.snoc {w : World} {B : Nat} {us : List Value} {ls : List (List UInt8)} (h : HeldB w B us ls) {u : Value} {l : List UInt8} (hu : w.ownsRow B 5 1 u l.length (l.map encB)) : HeldB w B (us ++ [u]) (ls ++ [l]) := by
  refine ⟨by simp [h.1], fun i u' l' h1 h2 => ?_⟩
  rw [List.getElem?_append] at h1 h2
  have hl := h.1
  split at h1
  · rw [if_pos (by omega)] at h2
    exact h.2 i u' l' h1 h2
  · rw [if_neg (by omega)] at h2
    have : i - us.length = 0 := by
      rcases Nat.eq_zero_or_pos (i - us.length) with h0 | h0
      · exact h0
      · rw [List.getElem?_eq_none (by simp; omega)] at h1; cases h1
    rw [this] at h1
    rw [← hl, this] at h2
    simp at h1 h2
    subst h1; subst h2
    exact hu

theorem minN (n k : Nat) : ∃ m : Nat, m = min n k ∧ ∀ w : World, (Builtin.min_ #[3, 3] 3 #[.int .i64 n, .int .i64 k]).run Try.prog w = .ok (.int .i64 m) w := by
  refine ⟨min n k, rfl, fun w => ?_⟩
  simp [Builtin.min_, Builtin.min2]
  split <;> omega

theorem cut_str (s : ByteArray) (m : Nat) : Value.string (s.extract 0 m) = strV (s.data.toList.take m) := by
  rw [Lib.extract_eq]
  simp [strV]

theorem infoStr : (Try.prog.info? 9).map (fun i => (i.zero, i.size, i.bytes)) = some (some (.string ⟨#[]⟩), 1, 16) := by kernel_rfl
theorem rowStr : RowTy Try.prog 29 9 1 16 (.string ⟨#[]⟩) := ⟨Try.underlying29, infoStr, rfl, by decide⟩
theorem infoPt : (Try.prog.info? 37).map (fun i => (i.zero, i.size, i.bytes)) = some (some (.slice none 0 0), 1, 24) := by kernel_rfl
theorem rowPt : RowTy Try.prog 30 37 1 24 (.slice none 0 0) := ⟨Try.underlying30, infoPt, rfl, by decide⟩

set_option maxRecDepth 100000 in
set_option maxHeartbeats 8000000 in
theorem dkFew (w : World) (o : Od) (vn vp vk : Value) (h : OdV w o vn vp vk) (hf : o.Fits) (sn st : ByteArray) (hsn : sn.data.toList = o.name) (hst : st.data.toList = o.nto) (hln : sn.size ≤ 9223372036854775807) (hlt : st.size ≤ 9223372036854775807) :
    Calls Try.prog 8 #[.agg #[.int .u8 o.act, .string sn, .string st, vn, vp, .int .i64 o.n, vk]] w fun e w' =>
      ∃ vn' vp' vk', e = .returned (.agg #[.int .u8 o.act, strV (o.name.take 12), strV (o.nto.take 12), vn', vp', .int .i64 o.n, vk']) ∧ FewV w.heap.size w' o vn' vp' vk' ∧ Below w.heap.size w w' := by
  obtain ⟨act, name, nto, names, parts, nn, keep⟩ := o
  obtain ⟨pn, cn, rfl, hlN⟩ := Reads.form h.names
  obtain ⟨vs, hvs, hpt⟩ := h.parts
  obtain ⟨pp, cp, rfl, hlP⟩ := Reads.form hvs
  obtain ⟨pk, ck, rfl, -⟩ := Nums.slice h.keep
  have V := Lib.hid (And.intro h.names (And.intro hvs (And.intro hpt h.keep)))
  have F := Lib.hid hf
  clear hvs hpt h hf
  dsimp only at hsn hst
  obtain ⟨mn, hmn⟩ : ∃ m, m = (min (sn.size : Int) 12).toNat := ⟨_, rfl⟩
  obtain ⟨mt, hmt⟩ : ∃ m, m = (min (st.size : Int) 12).toNat := ⟨_, rfl⟩
  have en : Value.string (sn.extract 0 mn) = strV (name.take 12) := by
    rw [cut_str, hsn, hmn]
    congr 1
    have : sn.size = name.length := by rw [← hsn, Array.length_toList]; rfl
    rw [this]
    by_cases h : name.length ≤ 12
    · rw [List.take_of_length_le (by omega), List.take_of_length_le h]
    · congr 1; omega
  have et : Value.string (st.extract 0 mt) = strV (nto.take 12) := by
    rw [cut_str, hst, hmt]
    congr 1
    have : st.size = nto.length := by rw [← hst, Array.length_toList]; rfl
    rw [this]
    by_cases h : nto.length ≤ 12
    · rw [List.take_of_length_le (by omega), List.take_of_length_le h]
    · congr 1; omega
  have bn : (0 : Int) ≤ min (sn.size : Int) 12 ∧ min (sn.size : Int) 12 ≤ sn.size := by omega
  have bt : (0 : Int) ≤ min (st.size : Int) 12 ∧ min (st.size : Int) 12 ≤ st.size := by omega
  have E := Lib.hid (And.intro en et)
  have hmn' := hmn.symm
  have hmt' := hmt.symm
  clear hmn hmt en et hsn hst
  dsimp only
  go_enter Try.func8, Try.ntmps8
  go_upto_region 1 with fail
  obtain ⟨B, hB⟩ : ∃ B, B = w.heap.size := ⟨_, rfl⟩
  rw [← hB]
  obtain ⟨W0, hW0⟩ : ∃ W, W = ((w.alloc (.cells #[.int .u8 act, .string sn, .string st, .slice pn names.length cn, .slice pp parts.length cp, .int .i64 nn, .slice pk keep.length ck] 33)).alloc (.cells #[.int .u8 0, .string ⟨#[]⟩, .string ⟨#[]⟩, .slice none 0 0, .slice none 0 0, .int .i64 0, .slice none 0 0] 33)).drew := ⟨_, rfl⟩
  have hb0 : Below w.heap.size w W0 := by rw [hW0]; exact (((Below.refl _ w).alloc (Nat.le_refl _) _).alloc (by simp) _).drew
  have h00 : W0.heap[B]? = some (.cells #[.int .u8 act, .string sn, .string st, .slice pn names.length cn, .slice pp parts.length cp, .int .i64 nn, .slice pk keep.length ck] 33 (0, 0)) ∧ W0.heap[B + 1]? = some (.cells #[.int .u8 0, .string ⟨#[]⟩, .string ⟨#[]⟩, .slice none 0 0, .slice none 0 0, .int .i64 0, .slice none 0 0] 33 (0, 0)) := by
    rw [hW0, hB]; exact heap2 w _ _
  have c1 : W0.cell? ⟨B, 1, none⟩ = some (.string sn) := cellsG h00.1 1
  have c2 : W0.cell? ⟨B, 2, none⟩ = some (.string st) := cellsG h00.1 2
  have z1 : W0.frozen? ⟨B, 1, none⟩ = false := thawedG h00.1 1
  have hs1 := setBlk h00.1 1 (.string (sn.extract 0 mn))
  have z2 : (W0.setCell ⟨B, 1, none⟩ (.string (sn.extract 0 mn))).frozen? ⟨B, 2, none⟩ = false := thawedG hs1 2
  have k2 : (W0.setCell ⟨B, 1, none⟩ (.string (sn.extract 0 mn))).cell? ⟨B, 2, none⟩ = some (.string st) := cellsG hs1 2
  have k1 : (W0.setCell ⟨B, 1, none⟩ (.string (sn.extract 0 mn))).cell? ⟨B, 1, none⟩ = some (.string (sn.extract 0 mn)) := cellsG hs1 1
  have HW := Lib.hid hW0
  have HB := Lib.hid hB
  have H0 := Lib.hid (And.intro hb0 (And.intro h00 hs1))
  clear hW0 hb0 h00 hs1 hB
  obtain ⟨W2, hW2⟩ : ∃ W, W = (W0.setCell ⟨B, 1, none⟩ (.string (sn.extract 0 mn))).setCell ⟨B, 2, none⟩ (.string (st.extract 0 mt)) := ⟨_, rfl⟩
  have HW2 := Lib.hid hW2
  have y2 : W2.heap[B]? = some (.cells #[.int .u8 act, strV (name.take 12), strV (nto.take 12), .slice pn names.length cn, .slice pp parts.length cp, .int .i64 nn, .slice pk keep.length ck] 33 (0, 0)) ∧ W2.heap[B + 1]? = some (.cells #[.int .u8 0, .string ⟨#[]⟩, .string ⟨#[]⟩, .slice none 0 0, .slice none 0 0, .int .i64 0, .slice none 0 0] 33 (0, 0)) ∧ Below w.heap.size w W2 := by
    rw [hW2]
    refine ⟨?_, ?_, (H0.out.1.setCell (p := ⟨B, 1, none⟩) (by rw [HB.out]; exact Nat.le_refl _) _).setCell (p := ⟨B, 2, none⟩) (by rw [HB.out]; exact Nat.le_refl _) _⟩
    · rw [setBlk H0.out.2.2 2 _, E.out.1, E.out.2]
      rfl
    · have h1 := H0.out.2.1.2
      simp only [World.setCell, Array.getElem?_modify, if_neg (show ¬ B = B + 1 by omega)]
      exact h1
  have Y2 := Lib.hid y2
  clear hW2 y2
  go_cut [24] (fun s wc => s = .pointer (some ⟨B, 2, none⟩) ∧ wc = W2)
  case first =>
    refine region_goN 17 (fun w' => w'.cell? ⟨B, 2, none⟩ = some (.string st)) (by kernel_rfl) ?hS0 (fun hH => ?_)
    case hS0 =>
      rw [← HW.out]; exact c2
    rw [← HW.out] at hH ⊢
    refine kYN 0 hH ?_
    repeat simp only [Act.put, uA1, uB1, uC1]
    refine kYN 2 hH ?_
    repeat simp only [Act.put, uA1, uB1, uC1]
    refine kYN 7 hH ?_
    repeat simp only [Act.put, uA1, uB1, uC1]
    refine kYN 8 hH ?_
    repeat simp only [Act.put, uA1, uB1, uC1]
    refine kYN 9 hH ?_
    repeat simp only [Act.put, uA1, uB1, uC1]
    refine kYN 10 hH ?_
    repeat simp only [Act.put, uA1, uB1, uC1]
    refine kYN 11 hH ?_
    repeat simp only [Act.put, uA1, uB1, uC1]
    refine kYN 12 hH ?_
    repeat simp only [Act.put, uA1, uB1, uC1]
    refine kYN 13 hH ?_
    repeat simp only [Act.put, uA1, uB1, uC1]
    refine spBN 1 3 rfl rfl (by decide) (by decide) ?hr ?hw ?hv (fun K' hK => ?b1_1) (fun K' hK => ?b2_1)
    case hr => decide +kernel
    case hw => rfl
    case hv => rfl
    case b1_1 =>
      go_simp
      try dsimp only
      refine hK.out _ _ ?hS (fun hH' => ?_)
      case hS =>
        exact hH
      clear hK K' hH; have hH := hH'; clear hH'; repeat simp only [Act.put, uA1, uB1, uC1]
      refine spkN 3 rfl (by decide) (by decide +kernel) (by rfl) (fun K' hK => ?_)
      go_simp
      try dsimp only
      refine hK.out _ _ ?hS (fun hH' => ?_)
      case hS =>
        exact hH
      clear hK K' hH; have hH := hH'; clear hH'; repeat simp only [Act.put, uA1, uB1, uC1]
      refine kYN 4 hH ?_
      repeat simp only [Act.put, uA1, uB1, uC1]
      refine kYN 5 hH ?_
      repeat simp only [Act.put, uA1, uB1, uC1]
      refine kYN 6 hH ?_
      repeat simp only [Act.put, uA1, uB1, uC1]
      refine kYN 14 hH ?_
      repeat simp only [Act.put, uA1, uB1, uC1]
      refine spkN 15 rfl (by decide) (by decide +kernel) (by rfl) (fun K' hK => ?_)
      go_simp
      try dsimp only
      refine hK.out _ _ ?hS (fun hH' => ?_)
      case hS =>
        exact k2
      clear hK K' hH; have hH := hH'; clear hH'; repeat simp only [Act.put, uA1, uB1, uC1]
      refine kYN 16 hH ?_
      repeat simp only [Act.put, uA1, uB1, uC1]
      refine spkL rfl (by decide +kernel) (by rfl) (fun K' hK => ?_)
      go_simp
      try dsimp only
      refine hK.out _ _ ?_
      clear hK K' hH; repeat simp only [Act.put, uA1, uB1, uC1]
      refine anyBut_done (by decide +kernel) ?_ _
      go_wp2_with fail
      go_meet
      exact ⟨rfl, HW2.out.symm⟩
    case b2_1 =>
      go_simp
      try dsimp only
      refine hK.out _ _ ?hS (fun hH' => ?_)
      case hS =>
        exact hH
      clear hK K' hH; have hH := hH'; clear hH'; repeat simp only [Act.put, uA1, uB1, uC1]
      refine kYN 4 hH ?_
      repeat simp only [Act.put, uA1, uB1, uC1]
      refine kYN 5 hH ?_
      repeat simp only [Act.put, uA1, uB1, uC1]
      refine spkN 1 rfl (by decide) (by decide +kernel) (by rfl) (fun K' hK => ?_)
      go_simp
      try dsimp only
      refine hK.out _ _ ?hS (fun hH' => ?_)
      case hS =>
        exact hH
      clear hK K' hH; have hH := hH'; clear hH'; repeat simp only [Act.put, uA1, uB1, uC1]
      refine kYN 6 hH ?_
      repeat simp only [Act.put, uA1, uB1, uC1]
      refine kYN 14 hH ?_
      repeat simp only [Act.put, uA1, uB1, uC1]
      refine spkN 15 rfl (by decide) (by decide +kernel) (by rfl) (fun K' hK => ?_)
      go_simp
      try dsimp only
      refine hK.out _ _ ?hS (fun hH' => ?_)
      case hS =>
        exact k2
      clear hK K' hH; have hH := hH'; clear hH'; repeat simp only [Act.put, uA1, uB1, uC1]
      refine kYN 16 hH ?_
      repeat simp only [Act.put, uA1, uB1, uC1]
      refine spkL rfl (by decide +kernel) (by rfl) (fun K' hK => ?_)
      go_simp
      try dsimp only
      refine hK.out _ _ ?_
      clear hK K' hH; repeat simp only [Act.put, uA1, uB1, uC1]
      refine anyBut_done (by decide +kernel) ?_ _
      go_wp2_with fail
      go_meet
      exact ⟨rfl, HW2.out.symm⟩
  case rest =>
  obtain ⟨rfl, rfl⟩ := hcut
  obtain ⟨W2, rfl⟩ : ∃ W : World, W = wc := ⟨_, rfl⟩
  clear c1 c2 z1 z2 k1 k2 bn bt hmn' hmt'
  have f3 : W2.cell? ⟨B, 3, none⟩ = some (.slice pn names.length cn) := cellsG Y2.out.1 3
  have VN := Lib.hid (V.out.1.below Y2.out.2.2)
  dsimp only at hlN hlP
  go_wp2_with fail
  go_loopg [3, 28] names.length (fun q s i wr => ∃ (j : Nat) (p : Option Addr) (n c : Nat), q = names.length - j ∧ j ≤ names.length ∧ i = .int .i64 j ∧ s = .slice p n c ∧ wr.ownsRow W2.heap.size 9 1 (.slice p n c) (((names.take j).take 4).map (·.take 12)).length ((((names.take j).take 4).map (·.take 12)).map strV) ∧ Below W2.heap.size W2 wr)
  case atStart => exact ⟨0, none, 0, 0, rfl, by omega, rfl, rfl, by simpa using World.ownsRow_nil _ _ _ _, Below.refl _ _⟩
  case round =>
    obtain ⟨j, pA, nA, cA, rfl, hj, rfl, rfl, hrow, hbl⟩ := hrel
    have hn := own_len hrow
    rw [← hn] at hrow
    have HN := Lib.hid hn
    have hn4 : nA ≤ 4 := by rw [hn]; simp; omega
    have hs := hbl.size
    clear hn
    by_cases hlt' : j < names.length
    · obtain ⟨b, off, rfl, hcell⟩ := Reads.one (VN.out.below hbl) (j := j) (by simpa using hlt')
      rw [List.getElem_map] at hcell
      obtain ⟨sx, hsx⟩ : ∃ sx : ByteArray, sx = ⟨names[j].toArray⟩ := ⟨_, rfl⟩
      replace hcell : wr.cell? ⟨b, off + j, none⟩ = some (.string sx) := by rw [hsx]; exact hcell
      by_cases h4 : j < 4
      · obtain ⟨mx, hmx⟩ : ∃ m, m = (min (sx.size : Int) 12).toNat := ⟨_, rfl⟩
        have bx : (0 : Int) ≤ min (sx.size : Int) 12 ∧ min (sx.size : Int) 12 ≤ sx.size := by omega
        have hbx : sx.size ≤ 9223372036854775807 := by
          have := F.out.names.2.2 names[j] (List.getElem_mem _)
          rw [hsx]
          exact this
        have en : Value.string (sx.extract 0 mx) = strV (names[j].take 12) := by
          rw [cut_str, hmx]
          congr 1
          have h1 : sx.data.toList = names[j] := by rw [hsx]
          have h2 : sx.size = names[j].length := by rw [← h1, Array.length_toList]; rfl
          rw [h1, h2]
          by_cases h : names[j].length ≤ 12
          · rw [List.take_of_length_le (by omega), List.take_of_length_le h]
          · congr 1; omega
        obtain ⟨g, c', W5, hrun, own5, hg5, -, -⟩ := run_push rowStr hrow hs #[.string (sx.extract 0 mx)] rfl (by simp [Value.oneCell']) (by simp [maxLen]; omega) (by omega)
        have A := Lib.hid (show W5.ownsRow W2.heap.size 9 1 (.slice (some ⟨g, 0, none⟩) (nA + 1) c') (((names.take (j + 1)).take 4).map (·.take 12)).length ((((names.take (j + 1)).take 4).map (·.take 12)).map strV) ∧ Below W2.heap.size W2 W5 from by
          have e4 : (names.take (j + 1)).take 4 = (names.take j).take 4 ++ [names[j]] := by
            rw [List.take_take, List.take_take, Nat.min_eq_right (by omega), Nat.min_eq_right (by omega), List.take_succ_eq_append_getElem hlt']
          refine ⟨?_, (hbl.alloc hs _).grown hg5 (by simp; omega) (fun b hb => (hrow.lt b hb).1)⟩
          have e5 : (((names.take (j + 1)).take 4).map (·.take 12)).length = nA + 1 := by rw [e4, List.map_append, List.length_append, ← HN.out]; rfl
          rw [e5, e4]
          simp only [List.map_append, List.map_cons, List.map_nil]
          rw [← en]
          exact own5)
        have hmx' := hmx.symm
        clear hrow hbl hg5 own5 en hsx hmx
        go_wp2_with (with_reducible refine wpList_append_eq hrun rfl _ _ rfl rfl rfl ?_)
        go_roundg (names.length - (j + 1))
        case measure => omega
        case rel => exact ⟨j + 1, _, _, _, rfl, by omega, by go_num, rfl, A.out.1, A.out.2⟩
      · have A := Lib.hid (show wr.ownsRow W2.heap.size 9 1 (.slice pA nA cA) (((names.take (j + 1)).take 4).map (·.take 12)).length ((((names.take (j + 1)).take 4).map (·.take 12)).map strV) ∧ Below W2.heap.size W2 wr from by
          have e4 : (names.take (j + 1)).take 4 = (names.take j).take 4 := by
            rw [List.take_take, List.take_take]
            congr 1
            omega
          rw [e4, ← HN.out]
          exact ⟨hrow, hbl⟩)
        clear hrow hbl hsx
        go_wp2_with fail
        go_roundg (names.length - (j + 1))
        case measure => omega
        case rel => exact ⟨j + 1, _, _, _, rfl, by omega, by go_num, rfl, A.out.1, A.out.2⟩
    · obtain rfl : j = names.length := by omega
      have hN4 : nA = (Od.names4 ⟨act, name, nto, names, parts, nn, keep⟩).length := by have := HN.out; rw [List.take_length] at this; exact this
      have NN4 := Lib.hid hN4
      clear hN4
      rw [List.take_length] at hrow
      have y3 := (hbl.block B (lt_block Y2.out.1)).trans Y2.out.1
      have y3' := (hbl.block (B + 1) (lt_block Y2.out.2.1)).trans Y2.out.2.1
      have f4 : wr.cell? ⟨B, 4, none⟩ = some (.slice pp parts.length cp) := cellsG y3 4
      have NR := Lib.hid hrow
      have Y3 := Lib.hid (And.intro y3 (And.intro y3' (Y2.out.2.2.trans (hbl.mono Y2.out.2.2.size))))
      have s23 := hs
      obtain ⟨W3, rfl⟩ : ∃ W : World, W = wr := ⟨_, rfl⟩
      clear hrow hbl y3 y3' hs f3
      go_wp2_with fail
      have VP := Lib.hid (And.intro (V.out.2.1.below Y3.out.2.2) (fun i u l hu hl => (V.out.2.2.1 i u l hu hl).below Y3.out.2.2))
      have hvl := V.out.2.1.1
      go_loopg [6, 47] parts.length (fun q s i wr => ∃ (j : Nat) (p : Option Addr) (n c : Nat) (us : List Value), q = parts.length - j ∧ j ≤ parts.length ∧ i = .int .i64 j ∧ s = .slice p n c ∧ n = us.length ∧ wr.ownsRow W3.heap.size 37 1 (.slice p n c) n us ∧ HeldB wr W3.heap.size us (((parts.take j).take 4).map fun p => toB (p.take 200)) ∧ Below W3.heap.size W3 wr)
      case atStart => exact ⟨0, none, 0, 0, [], rfl, by omega, rfl, rfl, rfl, World.ownsRow_nil _ _ _ _, ⟨by simp, fun i u l hu => by simp at hu⟩, Below.refl _ _⟩
      case round =>
        obtain ⟨j, p, n, c, us, rfl, hj, rfl, rfl, hn, hrow, hheld, hbl⟩ := hrel
        have hs := hbl.size
        have hn4 : n ≤ 4 := by rw [hn, hheld.1]; simp; omega
        by_cases hlt' : j < parts.length
        · have hjv : j < vs.length := by simpa using (by rw [hvl]; simpa using hlt' : j < vs.length)
          obtain ⟨b, off, rfl, hcell⟩ := Reads.one (VP.out.1.below hbl) (j := j) hjv
          have hnum := (VP.out.2 j vs[j] parts[j] (List.getElem?_eq_getElem hjv) (List.getElem?_eq_getElem hlt')).below hbl
          obtain ⟨l, hl⟩ : ∃ l, l = parts[j] := ⟨_, rfl⟩
          obtain ⟨u, hu⟩ : ∃ u, u = vs[j] := ⟨_, rfl⟩
          rw [← hl, ← hu] at hnum
          rw [← hu] at hcell
          obtain ⟨up, uc, rfl, -⟩ := id hnum.slice
          have HL := Lib.hid hl
          clear hl hu
          by_cases h4 : j < 4
          · have cC := cutBytes l _ 200 wr hnum (fun x hx => F.out.parts parts[j] (List.getElem_mem _) x (by rw [← HL.out]; exact hx)) (by omega)
            rw [show toB (l.take (200 : Int).toNat) = toB (l.take 200) from rfl] at cC
            have R := Lib.hid (And.intro hrow (And.intro hheld hbl))
            have HN := Lib.hid hn
            clear hrow hheld hbl hnum hn
            have PUSH := Lib.hid (show ∀ (w4 : World) (q4 : Option Addr) (n4 c4 : Nat), w4.ownsRow wr.heap.size 5 1 (.slice q4 n4 c4) (toB (l.take 200)).length ((toB (l.take 200)).map encB) → Below wr.heap.size wr w4 →
                ∃ g c' W5, (∀ ty, (Builtin.append_ #[30, 30] ty #[.slice p n c, .slice (some ⟨w4.heap.size, 0, none⟩) 1 1]).run Try.prog (w4.alloc (.cells #[.slice q4 n4 c4] 37)) = .ok (.slice (some ⟨g, 0, none⟩) (n + 1) c') W5) ∧
                  ∃ us' : List Value, n + 1 = us'.length ∧ W5.ownsRow W3.heap.size 37 1 (.slice (some ⟨g, 0, none⟩) (n + 1) c') (n + 1) us' ∧ HeldB W5 W3.heap.size us' (((parts.take (j + 1)).take 4).map fun p => toB (p.take 200)) ∧ Below W3.heap.size W3 W5 from by
              intro w4 q4 n4 c4 hu4 hb4
              have hrow4 := own_below R.out.1 hb4
              have hs4 : W3.heap.size ≤ w4.heap.size := Nat.le_trans R.out.2.2.size hb4.size
              obtain ⟨g, c', W5, hrun, own5, hg5, -, -⟩ := run_push rowPt hrow4 hs4 #[.slice q4 n4 c4] rfl (by simp [Value.oneCell']) (by simp [maxLen]; omega) (by omega)
              have e4 : (parts.take (j + 1)).take 4 = (parts.take j).take 4 ++ [l] := by
                rw [List.take_take, List.take_take, Nat.min_eq_right (by omega), Nat.min_eq_right (by omega), List.take_succ_eq_append_getElem hlt', HL.out]
              have b3 : Below W3.heap.size W3 w4 := R.out.2.2.trans (hb4.mono R.out.2.2.size)
              refine ⟨g, c', W5, hrun, us ++ [.slice q4 n4 c4], by simp [HN.out], own5, ?_, (b3.alloc hs4 _).grown hg5 (by simp; omega) (fun b hb => (hrow4.lt b hb).1)⟩
              rw [e4, List.map_append]
              exact (((R.out.2.1.below hb4).snoc (own_mono hu4 R.out.2.2.size)).below ((Below.refl _ _).alloc (Nat.le_refl _) (.cells #[.slice q4 n4 c4] 37))).kept (hrow4.alloc (.cells #[.slice q4 n4 c4] 37)) hg5)
            go_wp2_with (first
              | (go_at_call 13; (with_reducible refine cC.mono ?_); rintro e w4 ⟨u4, rfl, hu4, hb4⟩; obtain ⟨q4, n4, c4, rfl⟩ := own_form hu4; obtain ⟨g, c', W5, hrun, hA⟩ := PUSH.out w4 q4 n4 c4 hu4 hb4; have A := Lib.hid hA; clear hu4 hb4 hA)
              | (with_reducible refine wpList_append_eq hrun rfl _ _ rfl rfl rfl ?_))
            go_roundg (parts.length - (j + 1))
            case measure => omega
            case rel =>
              obtain ⟨us', h1, h2⟩ := A.out
              exact ⟨j + 1, _, _, _, us', rfl, by omega, by go_num, rfl, h1, h2⟩
          · have A := Lib.hid (show n = us.length ∧ wr.ownsRow W3.heap.size 37 1 (.slice p n c) n us ∧ HeldB wr W3.heap.size us (((parts.take (j + 1)).take 4).map fun p => toB (p.take 200)) ∧ Below W3.heap.size W3 wr from by
              have e4 : (parts.take (j + 1)).take 4 = (parts.take j).take 4 := by
                rw [List.take_take, List.take_take]
                congr 1
                omega
              rw [e4]
              exact ⟨hn, hrow, hheld, hbl⟩)
            clear hrow hheld hbl hnum hn
            go_wp2_with fail
            go_roundg (parts.length - (j + 1))
            case measure => omega
            case rel => exact ⟨j + 1, _, _, _, us, rfl, by omega, by go_num, rfl, A.out⟩
        · obtain rfl : j = parts.length := by omega
          rw [List.take_length] at hheld
          have y4 := (hbl.block B (lt_block Y3.out.1)).trans Y3.out.1
          have y4' := (hbl.block (B + 1) (lt_block Y3.out.2.1)).trans Y3.out.2.1
          have f6 : wr.cell? ⟨B, 6, none⟩ = some (.slice pk keep.length ck) := cellsG y4 6
          have Y4 := Lib.hid (And.intro y4 (And.intro y4' (Y3.out.2.2.trans (hbl.mono Y3.out.2.2.size))))
          have cE := endsI keep _ wr (V.out.2.2.2.below Y4.out.2.2)
          have R := Lib.hid (And.intro (own_below NR.out hbl) (And.intro hrow hheld))
          have s34 := hbl.size
          obtain ⟨W4, rfl⟩ : ∃ W : World, W = wr := ⟨_, rfl⟩
          have HN2 := Lib.hid hn
          clear hrow hheld hbl y4 y4' f4 hn hs
          go_upto_region 17 with (go_at_call 17; (with_reducible refine cE.mono ?_); rintro e w5 ⟨v5, rfl, hu5, hb5⟩; obtain ⟨q5, n5, c5, rfl⟩ := own_form hu5; have R5 := Lib.hid (And.intro hu5 hb5); have y5 := (hb5.block B (lt_block Y4.out.1)).trans Y4.out.1; have y5' := (hb5.block (B + 1) (lt_block Y4.out.2.1)).trans Y4.out.2.1; have g3 := cellsG y5 3; have g4 := cellsG y5 4; have g6 := cellsG y5 6; have h3 := thawedG y5 3; have h4 := thawedG y5 4; have h6 := thawedG y5 6; have Y5 := Lib.hid (And.intro y5 y5'); clear hu5 hb5 y5 y5')
          obtain ⟨W6, hW6⟩ : ∃ W, W = ((w5.setCell ⟨B, 3, none⟩ (.slice pA nA cA)).setCell ⟨B, 4, none⟩ (.slice p n c)).setCell ⟨B, 6, none⟩ (.slice q5 n5 c5) := ⟨_, rfl⟩
          rw [← hW6]
          have y6 : W6.heap[B]? = some (.cells #[.int .u8 act, strV (name.take 12), strV (nto.take 12), .slice pA nA cA, .slice p n c, .int .i64 nn, .slice q5 n5 c5] 33 (0, 0)) := by
            rw [hW6, setBlk (setBlk (setBlk Y5.out.1 3 _) 4 _) 6 _]
            rfl
          have y6' : W6.heap[B + 1]? = some (.cells #[.int .u8 0, .string ⟨#[]⟩, .string ⟨#[]⟩, .slice none 0 0, .slice none 0 0, .int .i64 0, .slice none 0 0] 33 (0, 0)) := by
            rw [hW6]
            have h1 := Y5.out.2
            simp only [World.setCell, Array.getElem?_modify, if_neg (show ¬ B = B + 1 by omega)]
            exact h1
          have hB6 : Below w.heap.size w W6 := by
            have hl : w.heap.size ≤ B := by rw [HB.out]; exact Nat.le_refl _
            rw [hW6]
            exact (((Y4.out.2.2.trans (R5.out.2.mono Y4.out.2.2.size)).setCell (p := ⟨B, 3, none⟩) hl _).setCell (p := ⟨B, 4, none⟩) hl _).setCell (p := ⟨B, 6, none⟩) hl _
          have hK6 : ∀ j, j < w5.heap.size → j ≠ B → W6.heap[j]? = w5.heap[j]? := by
            intro j hj hne
            rw [hW6]
            simp [World.setCell, Array.getElem?_modify, Ne.symm hne]
          have hB2 : B < W2.heap.size := lt_block Y2.out.1
          obtain ⟨NC, hNC⟩ : ∃ NC : Array Value, NC = #[.int .u8 act, strV (name.take 12), strV (nto.take 12), .slice pA nA cA, .slice p n c, .int .i64 nn, .slice q5 n5 c5] := ⟨_, rfl⟩
          rw [← hNC] at y6
          have NSZ : (Try.prog.info? 33).map (·.size) = some NC.size := by rw [hNC]; kernel_rfl
          have NONE : NC.all (·.oneCell') = true := by rw [hNC]; simp [Value.oneCell', strV]
          obtain ⟨ZC, hZC⟩ : ∃ ZC : Array Value, ZC = #[.int .u8 0, .string ⟨#[]⟩, .string ⟨#[]⟩, .slice none 0 0, .slice none 0 0, .int .i64 0, .slice none 0 0] := ⟨_, rfl⟩
          rw [← hZC] at y6'
          have hmz : ZC.size = NC.size := by rw [hZC, hNC]; rfl
          obtain ⟨W7, hW7⟩ : ∃ W7, W7 = W6.setRow (B + 1) NC := ⟨_, rfl⟩
          have y7 : W7.heap[B + 1]? = some (.cells NC 33 (0, 0)) := by rw [hW7]; exact setRow_heap _ _ _ _ _ _ y6'
          have hk7 : ∀ j, j ≠ B + 1 → W7.heap[j]? = W6.heap[j]? := fun j hj => by rw [hW7]; exact setRow_other _ _ _ _ hj
          have hB7 : Below w.heap.size w W7 := by rw [hW7]; exact below_setRow hB6 (by have := HB.out; omega) _
          have hB2' : B + 1 < W2.heap.size := lt_block Y2.out.2.1
          have hV7 : FewV B W7 ⟨act, name, nto, names, parts, nn, keep⟩ (.slice pA nA cA) (.slice p n c) (.slice q5 n5 c5) := by
            have s2 : W2.heap.size ≤ W3.heap.size := s23
            have l1 := R.out.1
            have l2 := own_below R.out.2.1 R5.out.2
            have l3 := R.out.2.2.below R5.out.2
            rw [NN4.out] at l1
            have hk : ∀ j, W2.heap.size ≤ j → j < w5.heap.size → W7.heap[j]? = w5.heap[j]? := fun j h1 h2 => (hk7 j (by omega)).trans (hK6 j h2 (by omega))
            refine ⟨?_, ⟨us, ?_, l3.1, fun i u l hu hl => ?_⟩, ?_⟩
            · have l1' := own_below l1 R5.out.2
              rw [← NN4.out] at l1'
              rw [← NN4.out]
              exact own_agree (own_mono l1' (by omega)) fun k hj => hk k (l1'.lt k hj).1 (l1'.lt k hj).2
            · rw [← HN2.out]
              exact own_agree (own_mono l2 (by omega)) fun k hj => hk k (by have := (l2.lt k hj).1; omega) (l2.lt k hj).2
            · have := l3.2 i u l hu hl
              exact own_agree (own_mono this (by omega)) fun k hj => hk k (by have := (this.lt k hj).1; omega) (this.lt k hj).2
            · exact own_agree (own_mono R5.out.1 (by omega)) fun k hj => hk k (by have := (R5.out.1.lt k hj).1; omega) (R5.out.1.lt k hj).2
          have Z7 := Lib.hid (And.intro hB7 (And.intro hV7 hNC))
          have HW7 := Lib.hid hW7
          clear hB6 hK6 hB2 hW6 g3 g4 g6 h3 h4 h6 hNC hZC hW7 hk7 hB7 hB2' hV7
          go_wp2_with (first
            | refine wpList_load_row rfl 33 _ rfl B (by rfl) 33 NC (0, 0) _ y6 Try.underlying33 rfl NSZ ?_
            | (refine wpList_store_row rfl 33 _ _ rfl (B + 1) NC (by rfl) (by rfl) 33 ZC y6' NSZ hmz NONE ?_; rw [← HW7.out]))
          refine bodyPost_ret (results_cell_row (p := 2) (by kernel_rfl) _ W7 (B + 1) 33 NC (0, 0) _ (by rfl) y7 Try.underlying33 rfl NSZ) rfl ?_
          rw [← HB.out]
          exact ⟨_, _, _, by rw [Z7.out.2.2], Z7.out.2.1, by rw [HB.out]; exact Z7.out.1⟩

end Go.Proofs.Ytdcgooleiefljaa
