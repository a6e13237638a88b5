/- walk: nodes are seen. -/
import Derived.Test.YtpjbkaibgajpcaaGreatJ08
import Derived.Test.YtpjbkaibgajpcaaGreatJ10
import Derived.Test.YtpjbkaibgajpcaaGreatJ15
import Derived.Deep.DeepCutAuto
namespace Go.Proofs.YtpjbkaibgajpcaaGreat
open Go.RowKit Go.ChangeMaps
set_option maxRecDepth 20000

theorem look_seen (S : List Int) (k : Int) : (getK (seenM S) k).getD (.bool false) = .bool (decide (k ∈ S)) := by
  unfold getK seenM
  rw [List.find?_map]
  by_cases h : k ∈ S
  · obtain ⟨x, hx⟩ : ∃ x, S.find? ((fun p : Int × Value => decide (p.1 = k)) ∘ fun k => (k, Value.bool true)) = some x := by
      cases hf : S.find? ((fun p : Int × Value => decide (p.1 = k)) ∘ fun k => (k, Value.bool true)) with
      | some x => exact ⟨x, rfl⟩
      | none =>
        rw [List.find?_eq_none] at hf
        exact absurd (by simp) (hf k h)
    rw [hx]
    simp [h]
  · rw [List.find?_eq_none.2]
    · simp [h]
    · intro x hx
      simp only [Function.comp, decide_eq_true_eq]
      rintro rfl
      exact h hx

theorem zeroBoolW (w : World) : (zeroValue 4).run Tryz.prog w = .ok (.bool false) w := by kernel_rfl

theorem look_snoc (far : Int → Option Int) (most : Nat) (all : Bool) (s : Ws) (ks : List Int) (j : Nat) (hj : j < ks.length) : lookW far most all s (ks.take (j + 1)) = seeW far most all (lookW far most all s (ks.take j)) ks[j] := by
  unfold lookW
  rw [List.take_succ_eq_append_getElem hj, List.foldl_append]
  rfl

set_option maxRecDepth 100000 in
set_option maxHeartbeats 16000000 in
theorem wLook (w0 w : World) (T : TypeId) (rv : Value) (far : Int → Option Int) (nr : Int → List Int) (fF : FuncId) (rF : Value) (fN : FuncId) (rN : Value) (SP : SpaceAt w0 T rv far nr fF rF fN rN) (K : List Int) (hK : ∀ k d, far k = some d → k ∈ K) (hK1 : K.length ≤ 1000)
    (p ms c : Nat) (F : Nat → Prop) (kv : Value) (ks : List Int) (most : Nat) (hm : 1 ≤ most ∧ most ≤ 1000) (tv : Value) (s : Ws) (h : WkAt w0 w (.iface T rv) p ms c F kv ks most tv s) (g : GoodW K far most s) (all : Bool) :
    Calls Tryz.prog 70 #[.pointer (some ⟨p, 0, none⟩), .bool all, kv] w fun e w' => e = .returned (.tuple #[]) ∧ ∃ F' tv', WkAt w0 w' (.iface T rv) p ms c F' kv ks most tv' (lookW far most all s ks) := by
  obtain ⟨kp, kc, rfl, hk1, hk2, -, -⟩ := h.keys.slice
  have hkl : ks.length ≤ 9223372036854775807 := by omega
  have A0 := Lib.hid h
  have GG := Lib.hid g
  have SPH := Lib.hid SP
  have eF := SP.eF
  clear h hk1 hk2 g SP
  go_enter Tryz.func70, Tryz.ntmps70
  go_wp2_with fail
  go_loopg [15] ks.length (fun q i wr => ∃ (j : Nat) (F' : Nat → Prop) (tv' : Value), q = ks.length - j ∧ j ≤ ks.length ∧ i = .int .i64 j ∧ WkAt w0 wr (.iface T rv) p ms c F' (.slice kp ks.length kc) ks most tv' (lookW far most all s (ks.take j)))
  case atStart => exact ⟨0, F, tv, rfl, by omega, rfl, A0.out⟩
  case round =>
    obtain ⟨j, F', tv', rfl, hj, rfl, hA⟩ := hrel
    by_cases hlt : j < ks.length
    · have gS := GG.out.look hK hm.1 all (ks.take j)
      have hsn := look_snoc far most all s ks j hlt
      obtain ⟨st, hst⟩ : ∃ st, st = lookW far most all s (ks.take j) := ⟨_, rfl⟩
      rw [← hst] at gS hsn hA
      have ST := Lib.hid gS
      have A := Lib.hid hA
      obtain ⟨b, off, hkp, hcell⟩ := hA.keys.elem hlt
      obtain ⟨k, hk⟩ : ∃ k, k = ks[j] := ⟨_, rfl⟩
      rw [← hk] at hcell hsn
      have SN := Lib.hid hsn
      have HJ := Lib.hid (And.intro hj hlt)
      have mF := SPH.out.mF wr hA.old
      have cF := Lib.hid (SPH.out.cF wr hA.old k)
      have c0 : wr.cell? ⟨p, 0, none⟩ = some (.iface T rv) := cellsB hA.cell 0
      subst hkp
      clear gS hsn hA hst hk
      cases hf : far k with
      | none =>
        have FF := Lib.hid hf
        go_wp2_with ((with_reducible refine wpList_invoke (vy := .int .u64 k) mF eF rfl _ _ _ rfl rfl rfl cF.out ?_); rintro v w3 ⟨rfl, hb⟩; rw [FF.out]; have B3 := Lib.hid hb; clear hb)
        go_roundg (ks.length - (j + 1))
        case measure => have := HJ.out; omega
        case rel => exact ⟨j + 1, F', tv', rfl, by have := HJ.out; omega, by go_num, by rw [SN.out, seeW, FF.out]; exact A.out.below B3.out⟩
      | some d =>
        have FF := Lib.hid hf
        by_cases hkS : k ∈ st.S
        · have HS := Lib.hid hkS
          clear hf hkS
          go_wp2_with ((with_reducible refine wpList_invoke (vy := .int .u64 k) mF eF rfl _ _ _ rfl rfl rfl cF.out ?_); rintro v w3 ⟨rfl, hb⟩; rw [FF.out]; have A3 := Lib.hid (A.out.below hb); have c2 : w3.cell? ⟨p, 2, none⟩ = some (.map (some ms)) := cellsB A3.out.cell 2; have LK := run_look (P := Tryz.prog) (int_keyOf Tryz.underlying36) Tryz.underlying117 A3.out.seen (zeroBoolW w3) k false; simp only [Bool.false_eq_true, if_false, look_seen, HS.out, decide_true] at LK; clear hb)
          go_roundg (ks.length - (j + 1))
          case measure => have := HJ.out; omega
          case rel => exact ⟨j + 1, F', tv', rfl, by have := HJ.out; omega, by go_num, by rw [SN.out, seeW, FF.out]; simp only [HS.out, if_true]; exact A3.out⟩
        · have HS := Lib.hid hkS
          clear hf hkS
          go_upto_region 7 with ((with_reducible refine wpList_invoke (vy := .int .u64 k) mF eF rfl _ _ _ rfl rfl rfl cF.out ?_); rintro v w3 ⟨rfl, hb⟩; rw [FF.out]; have A3 := Lib.hid (A.out.below hb); have c2 : w3.cell? ⟨p, 2, none⟩ = some (.map (some ms)) := cellsB A3.out.cell 2; have LK := run_look (P := Tryz.prog) (int_keyOf Tryz.underlying36) Tryz.underlying117 A3.out.seen (zeroBoolW w3) k false; simp only [Bool.false_eq_true, if_false, look_seen, HS.out, decide_false] at LK; obtain ⟨w4, hput, hA4, hM4⟩ := A3.out.saw HS.out; have A4 := Lib.hid hA4; clear hb hA4 hM4)
          obtain ⟨W6, hW6⟩ : ∃ W6, W6 = w4.alloc (.cells #[.int .u64 k, .int .u64 d, .slice none 0 0] 38) := ⟨_, rfl⟩
          have hb6 : Below w4.heap.size w4 W6 := by rw [hW6]; exact (Below.refl _ _).alloc (Nat.le_refl _) _
          have y6 : W6.heap[w4.heap.size]? = some (.cells #[.int .u64 k, .int .u64 d, .slice none 0 0] 38 (0, 0)) := by rw [hW6]; exact heap_alloc_new _ _
          rw [← hW6]
          have A6 := Lib.hid (A4.out.below hb6)
          obtain ⟨g, hg⟩ : ∃ g, g = w4.heap.size := ⟨_, rfl⟩
          have hgF : ¬ F' g := fun hF => by have := (A4.out.fhi g hF).2; omega
          have hgT : tv'.ownBlock ≠ some g := fun e => by have := (A4.out.todo.lt g e).2; omega
          rw [← hg] at y6 ⊢
          have cH := Lib.hid (show Calls Tryz.prog 91 #[.pointer (some ⟨p, 0, none⟩), .agg #[.int .u64 k, .int .u64 d, .slice none 0 0]] W6 fun e w' => e = .returned (.bool (hopeB most st.L (hitK k d))) ∧ Below W6.heap.size W6 w' from
            wHopeful W6 w0.heap.size p c F' most st.L (hitK k d) (.slice none 0 0) (cellsB A6.out.cell 1) A6.out.best ST.out.best hm ⟨none, 0, 0, rfl⟩)
          obtain ⟨hope, hhope⟩ : ∃ b, b = hopeB most st.L (hitK k d) := ⟨_, rfl⟩
          rw [← hhope] at cH
          have HP := Lib.hid hhope
          have Y6 := Lib.hid (And.intro y6 hgF)
          have HGT := Lib.hid hgT
          have e0 := cellsB y6 0
          have e1 := cellsB y6 1
          have e2 := cellsB y6 2
          clear hW6 hb6 hg hgF hgT hhope LK hput y6 c2 c0
          go_cut [53] (fun s wc => s = .bool (!hope && !all) ∧ Below W6.heap.size W6 wc)
          case first =>
            cases hope
            all_goals
              go_wp2_with (go_at_call 91; (with_reducible refine cH.out.mono ?_); rintro e w7 ⟨rfl, hb⟩; have B7 := Lib.hid hb; clear hb)
              go_meet
              exact ⟨by simp, B7.out⟩
          case rest =>
          obtain ⟨rfl, hbc⟩ := hcut
          have A7 := Lib.hid (A6.out.below hbc)
          have y7 := (hbc.block g (Array.getElem?_eq_some_iff.1 Y6.out.1).1).trans Y6.out.1
          have Y7 := Lib.hid (And.intro y7 Y6.out.2)
          obtain ⟨W7, rfl⟩ : ∃ W : World, W = wc := ⟨_, rfl⟩
          clear e0 e1 e2 hbc y7 cH
          by_cases hgo : (hope || all) = true
          · have SN2 := Lib.hid (show lookW far most all s (ks.take (j + 1)) = ⟨(addZ most st.L (hitK k d)).2, st.S ++ [k], insD st.T (hitK k d)⟩ from by
              rw [SN.out, seeW, FF.out]
              simp only [HS.out, if_false]
              rw [if_pos (by rw [← HP.out]; exact hgo)])
            have hno : (!hope && !all) = false := by revert hgo; cases hope <;> cases all <;> simp
            rw [hno]
            clear hgo hno
            go_wp2_with fail
            obtain ⟨W8, hW8⟩ : ∃ W8, W8 = W7.drew := ⟨_, rfl⟩
            have hb8 : Below W7.heap.size W7 W8 := by rw [hW8]; exact (Below.refl _ _).drew
            have A8 := Lib.hid (A7.out.below hb8)
            have y8 := (hb8.block g (Array.getElem?_eq_some_iff.1 Y7.out.1).1).trans Y7.out.1
            have c1 : W8.cell? ⟨p, 1, none⟩ = some (.pointer (some ⟨c, 0, none⟩)) := cellsB A8.out.cell 1
            have e0 : W8.cell? ⟨g, 0, none⟩ = some (.int .u64 k) := cellsB y8 0
            have e1 : W8.cell? ⟨g, 1, none⟩ = some (.int .u64 d) := cellsB y8 1
            have e2 : W8.cell? ⟨g, 2, none⟩ = some (.slice none 0 0) := cellsB y8 2
            obtain ⟨W9, hW9⟩ : ∃ W9, W9 = W8.alloc (.cells #[.int .u64 k, .int .u64 d, .slice none 0 0] 38) := ⟨_, rfl⟩
            have b9 : Below W8.heap.size W8 W9 := by rw [hW9]; exact (Below.refl _ _).alloc (Nat.le_refl _) _
            have c9 := Lib.hid (A8.out.added hm ST.out.best k d W9 hW9)
            have I8 := Lib.hid (And.intro c1 (And.intro e0 (And.intro e1 e2)))
            have I9 := Lib.hid (And.intro (below_cells b9 c1) (And.intro (below_cells b9 e0) (And.intro (below_cells b9 e1) (below_cells b9 e2))))
            have Y8 := Lib.hid (And.intro y8 Y7.out.2)
            have HW8 := Lib.hid hW8
            have HW9 := Lib.hid hW9
            clear hW8 hb8 y8 hW9 b9 c1 e0 e1 e2
            refine region_go (fun w' => w'.cell? ⟨p, 1, none⟩ = some (.pointer (some ⟨c, 0, none⟩)) ∧ w'.cell? ⟨g, 0, none⟩ = some (.int .u64 k) ∧ w'.cell? ⟨g, 1, none⟩ = some (.int .u64 d) ∧ w'.cell? ⟨g, 2, none⟩ = some (.slice none 0 0)) (by kernel_rfl) ?hS0 (fun hH => ?_)
            case hS0 =>
              rw [← HW8.out]; exact I8.out
            rw [← HW8.out] at hH ⊢
            refine kY 0 hH ?_
            repeat simp only [Act.put, uA1, uB1, uC1]
            refine kY 1 hH ?_
            repeat simp only [Act.put, uA1, uB1, uC1]
            refine kY 2 hH ?_
            repeat simp only [Act.put, uA1, uB1, uC1]
            refine kY 3 hH ?_
            repeat simp only [Act.put, uA1, uB1, uC1]
            refine kY 4 hH ?_
            repeat simp only [Act.put, uA1, uB1, uC1]
            refine spk 5 rfl (by decide +kernel) (by rfl) (fun K' hK => ?_)
            go_simp
            try dsimp only
            refine hK.out _ _ ?hS (fun hH' => ?_)
            case hS =>
              rw [← HW9.out]; exact I9.out
            clear hK K' hH; have hH := hH'; clear hH'; repeat simp only [Act.put, uA1, uB1, uC1]
            refine spk 6 rfl (by decide +kernel) (by rfl) (fun K' hK => ?_)
            go_simp
            rw [← HW9.out]
            refine c9.out.mono ?_
            rintro e w10 ⟨z10, F10, rfl, hA10, hm10⟩
            have y10 := (hm10.block g (Array.getElem?_eq_some_iff.1 Y8.out.1).1 Y8.out.2).trans Y8.out.1
            try dsimp only
            refine hK.out _ _ ?hS (fun hH' => ?_)
            case hS =>
              exact ⟨cellsB hA10.cell 1, cellsB y10 0, cellsB y10 1, cellsB y10 2⟩
            clear hK K' hH; have hH := hH'; clear hH'; repeat simp only [Act.put, uA1, uB1, uC1]
            refine wpAnyH_done (by decide +kernel) ?_ _
            have A10 := Lib.hid hA10
            have Y10 := Lib.hid y10
            clear hH hA10 hm10 y10
            go_wp2_with fail
            obtain ⟨W11, hW11⟩ : ∃ W11, W11 = w10.drew := ⟨_, rfl⟩
            have b11 : Below w10.heap.size w10 W11 := by rw [hW11]; exact (Below.refl _ _).drew
            have A11 := Lib.hid (A10.out.below b11)
            have y11 := (b11.block g (Array.getElem?_eq_some_iff.1 Y10.out).1).trans Y10.out
            have c3 : W11.cell? ⟨p, 3, none⟩ = some tv' := cellsB A11.out.cell 3
            have hTK := ST.out.small
            have c12 := Lib.hid (show Calls Tryz.prog 93 #[tv', .agg #[.int .u64 k, .int .u64 d, .slice none 0 0], .func (.func 94) #[] #[]] W11 fun e w' => ∃ b, e = .returned (.tuple #[.int .i64 (rankD st.T (hitK k d)), .bool b]) ∧ Below W11.heap.size W11 w' from
              bsearchW st.T (by omega) (hitK k d) (.slice none 0 0) tv' _ W11 (A11.out.hits ST.out.bare) (rankD st.T (hitK k d)) (rankD_le _ _) (fun i hi hlt => rankD_below hi hlt) (fun i hi hle => rankD_above ST.out.desc hi hle))
            have I11 := Lib.hid (And.intro c3 (And.intro (cellsB y11 0) (And.intro (cellsB y11 1) (cellsB y11 2))))
            have Y11 := Lib.hid y11
            have HW11 := Lib.hid hW11
            clear hW11 b11 y11 c3 hTK
            refine region_go (fun w' => w'.cell? ⟨p, 3, none⟩ = some tv' ∧ w'.cell? ⟨g, 0, none⟩ = some (.int .u64 k) ∧ w'.cell? ⟨g, 1, none⟩ = some (.int .u64 d) ∧ w'.cell? ⟨g, 2, none⟩ = some (.slice none 0 0)) (by kernel_rfl) ?hS0 (fun hH => ?_)
            case hS0 =>
              rw [← HW11.out]; exact I11.out
            rw [← HW11.out] at hH ⊢
            refine kY 0 hH ?_
            repeat simp only [Act.put, uA1, uB1, uC1]
            refine kY 1 hH ?_
            repeat simp only [Act.put, uA1, uB1, uC1]
            refine kY 2 hH ?_
            repeat simp only [Act.put, uA1, uB1, uC1]
            refine kY 3 hH ?_
            repeat simp only [Act.put, uA1, uB1, uC1]
            refine kY 4 hH ?_
            repeat simp only [Act.put, uA1, uB1, uC1]
            refine spk 5 rfl (by decide +kernel) (by rfl) (fun K' hK => ?_)
            go_simp
            refine c12.out.mono ?_
            rintro e w12 ⟨b12, rfl, hb12⟩
            try dsimp only
            refine hK.out _ _ ?hS (fun hH' => ?_)
            case hS =>
              exact ⟨below_cells hb12 hH.1, below_cells hb12 hH.2.1, below_cells hb12 hH.2.2.1, below_cells hb12 hH.2.2.2⟩
            clear hK K' hH; have hH := hH'; clear hH'; repeat simp only [Act.put, uA1, uB1, uC1]
            refine kY 6 hH ?_
            repeat simp only [Act.put, uA1, uB1, uC1]
            refine kY 7 hH ?_
            repeat simp only [Act.put, uA1, uB1, uC1]
            refine kY 8 hH ?_
            repeat simp only [Act.put, uA1, uB1, uC1]
            refine kY 9 hH ?_
            repeat simp only [Act.put, uA1, uB1, uC1]
            refine kY 10 hH ?_
            repeat simp only [Act.put, uA1, uB1, uC1]
            refine wpAnyH_done (by decide +kernel) ?_ _
            have B12 := Lib.hid hb12
            clear hH hb12
            go_wp2_with fail
            obtain ⟨W13, hW13⟩ : ∃ W13, W13 = w12.drew := ⟨_, rfl⟩
            have b13 : Below W11.heap.size W11 W13 := by rw [hW13]; exact B12.out.drew
            have A13 := Lib.hid (A11.out.below b13)
            have y13 := (b13.block g (Array.getElem?_eq_some_iff.1 Y11.out).1).trans Y11.out
            have c3 : W13.cell? ⟨p, 3, none⟩ = some tv' := cellsB A13.out.cell 3
            have e0 : W13.cell? ⟨g, 0, none⟩ = some (.int .u64 k) := cellsB y13 0
            have e1 : W13.cell? ⟨g, 1, none⟩ = some (.int .u64 d) := cellsB y13 1
            have e2 : W13.cell? ⟨g, 2, none⟩ = some (.slice none 0 0) := cellsB y13 2
            obtain ⟨W14, hW14⟩ : ∃ W14, W14 = W13.alloc (.cells #[.int .u64 k, .int .u64 d, .slice none 0 0] 38) := ⟨_, rfl⟩
            have b14 : Below W13.heap.size W13 W14 := by rw [hW14]; exact (Below.refl _ _).alloc (Nat.le_refl _) _
            have c14 := Lib.hid (A13.out.inserted k d (by have := ST.out.small; show st.T.length ≤ 100000; omega) W14 hW14)
            have I13 := Lib.hid (And.intro c3 (And.intro e0 (And.intro e1 e2)))
            have I14 := Lib.hid (And.intro (below_cells b14 c3) (And.intro (below_cells b14 e0) (And.intro (below_cells b14 e1) (below_cells b14 e2))))
            have Y13 := Lib.hid y13
            have HW13 := Lib.hid hW13
            have HW14 := Lib.hid hW14
            clear hW13 b13 y13 hW14 b14 c3 e0 e1 e2
            refine region_goN 11 (fun w' => w'.cell? ⟨p, 3, none⟩ = some tv' ∧ w'.cell? ⟨g, 0, none⟩ = some (.int .u64 k) ∧ w'.cell? ⟨g, 1, none⟩ = some (.int .u64 d) ∧ w'.cell? ⟨g, 2, none⟩ = some (.slice none 0 0)) (by kernel_rfl) ?hS0 (fun hH => ?_)
            case hS0 =>
              rw [← HW13.out]; exact I13.out
            rw [← HW13.out] at hH ⊢
            refine kYN 0 hH ?_
            repeat simp only [Act.put, uA1, uB1, uC1]
            refine kYN 1 hH ?_
            repeat simp only [Act.put, uA1, uB1, uC1]
            refine kYN 2 hH ?_
            repeat simp only [Act.put, uA1, uB1, uC1]
            refine kYN 3 hH ?_
            repeat simp only [Act.put, uA1, uB1, uC1]
            refine kYN 4 hH ?_
            repeat simp only [Act.put, uA1, uB1, uC1]
            refine kYN 5 hH ?_
            repeat simp only [Act.put, uA1, uB1, uC1]
            refine kYN 6 hH ?_
            repeat simp only [Act.put, uA1, uB1, uC1]
            refine spkN 7 rfl (by decide) (by decide +kernel) (by rfl) (fun K' hK => ?_)
            go_simp
            try dsimp only
            refine hK.out _ _ ?hS (fun hH' => ?_)
            case hS =>
              rw [← HW14.out]; exact I14.out
            clear hK K' hH; have hH := hH'; clear hH'; repeat simp only [Act.put, uA1, uB1, uC1]
            refine spkN 8 rfl (by decide) (by decide +kernel) (by rfl) (fun K' hK => ?_)
            go_simp
            rw [← HW14.out]
            refine c14.out.mono ?_
            rintro e w15 ⟨q15, n15, k15, rfl, hA15, -, hc15, hz15, hk15⟩
            have y15 := (hk15 g (Array.getElem?_eq_some_iff.1 Y13.out).1 HGT.out).trans Y13.out
            have A15 := Lib.hid hA15
            clear hA15 hk15
            try dsimp only
            refine hK.out _ _ ?hS (fun hH' => ?_)
            case hS =>
              exact ⟨hc15, cellsB y15 0, cellsB y15 1, cellsB y15 2⟩
            clear hK K' hH; have hH := hH'; clear hH'; repeat simp only [Act.put, uA1, uB1, uC1]
            refine spkN 9 rfl (by decide) (by decide +kernel) (by rfl) (fun K' hK => ?_)
            go_simp
            try dsimp only
            refine hK.out _ _ ?hS (fun hH' => ?_)
            case hS =>
              exact hH
            clear hK K' hH; have hH := hH'; clear hH'; repeat simp only [Act.put, uA1, uB1, uC1]
            refine kYN 10 hH ?_
            repeat simp only [Act.put, uA1, uB1, uC1]
            refine spkL rfl (by decide +kernel) (by rfl) (fun K' hK => ?_)
            go_simp
            try dsimp only
            refine hK.out _ _ ?_
            clear hK K' hH; repeat simp only [Act.put, uA1, uB1, uC1]
            refine anyBut_done (by decide +kernel) ?_ _
            go_wp2_with fail
            go_roundg (ks.length - (j + 1))
            case measure => have := HJ.out; omega
            case rel => exact ⟨j + 1, _, _, rfl, by have := HJ.out; omega, by go_num, by rw [SN2.out]; exact A15.out⟩
          · have SN2 := Lib.hid (show lookW far most all s (ks.take (j + 1)) = ⟨st.L, st.S ++ [k], st.T⟩ from by
              rw [SN.out, seeW, FF.out]
              simp only [HS.out, if_false]
              rw [if_neg (by rw [← HP.out]; exact hgo)])
            have hno : (!hope && !all) = true := by revert hgo; cases hope <;> cases all <;> simp
            rw [hno]
            clear hgo hno
            go_wp2_with fail
            go_roundg (ks.length - (j + 1))
            case measure => have := HJ.out; omega
            case rel => exact ⟨j + 1, F', tv', rfl, by have := HJ.out; omega, by go_num, by rw [SN2.out]; exact A7.out⟩
    · obtain rfl : j = ks.length := by omega
      rw [List.take_length] at hA
      have A := Lib.hid hA
      clear hA
      go_wp2_with fail
      go_end0
      exact ⟨rfl, F', tv', A.out⟩

end Go.Proofs.YtpjbkaibgajpcaaGreat
