/-
  gather: GatherOnce: the walk.
-/
import Derived.Test.YtfmlhdikagogcaaDoorJ46
import Derived.Deep.DeepCutAuto
namespace Go.Proofs.YtfmlhdikagogcaaDoor
open Go.RowKit
set_option maxRecDepth 20000

theorem fewN_len (n : Nt) : (fewN n).parts.length ≤ 6 ∧ (fewN n).ops.length ≤ 18 ∧ (fewN n).vec.length ≤ 10 ∧ (fewN n).hits.length ≤ 18 := by
  refine ⟨?_, ?_, ?_, ?_⟩
  · show (n.parts.take 6).length ≤ 6; rw [List.length_take]; omega
  · show (fewZ 18 n.ops).length ≤ 18; rw [fewZ_length]; omega
  · show (n.vec.take 10).length ≤ 10; rw [List.length_take]; omega
  · show (hitsZ 18 n.hits).length ≤ 18; rw [hitsZ_length]; omega

theorem own_short {w : World} {B e s n : Nat} {v : Value} {xs : List Value} (h : w.ownsRow B e s v n xs) : n ≤ 9223372036854775807 := by
  obtain ⟨h1, ⟨h2, h3⟩ | ⟨g, cap, cur, hv, hb, hg, hn, hc, hs, ht⟩⟩ := h
  · omega
  · simp only [maxLen] at hc; omega

theorem NoteV.one20 {w : World} {F : Nat → Prop} {o : Og} {vp vo vv vh : Value} (h : NoteV w F o.note vp vo vv vh) : (o.cells vp vo vv vh).toArray.all (·.oneCell') = true := by
  obtain ⟨p0, q0, rfl, -, -, -, -⟩ := h.parts.slice
  obtain ⟨p1, q1, rfl, -, -, -, -⟩ := id h.ops
  obtain ⟨p2, q2, rfl, -, -, -, -⟩ := h.vec.slice
  obtain ⟨p3, q3, rfl, -, -, -, -⟩ := id h.hits
  simp [Og.cells, Nt.cells, Value.oneCell']

theorem op_note (o : Og) (vp vo vv vh : Value) (j : Nat) (hj : j < 16) : (o.cells vp vo vv vh)[2 + j]? = (o.note.cells vp vo vv vh).toList[j]? := by
  have : j = 0 ∨ j = 1 ∨ j = 2 ∨ j = 3 ∨ j = 4 ∨ j = 5 ∨ j = 6 ∨ j = 7 ∨ j = 8 ∨ j = 9 ∨ j = 10 ∨ j = 11 ∨ j = 12 ∨ j = 13 ∨ j = 14 ∨ j = 15 := by omega
  rcases this with rfl | rfl | rfl | rfl | rfl | rfl | rfl | rfl | rfl | rfl | rfl | rfl | rfl | rfl | rfl | rfl <;> rfl

set_option maxHeartbeats 40000000 in
theorem gatherOnce (l : List Og) (v : Value) (w : World) (hv : ScriptG w v l) (hf : ∀ o ∈ l, o.Fits) (hT : Tab w) :
    Calls Tryd.prog 7 #[v] w fun e w' => e = .returned (.bool true) ∧ Below w.heap.size w w' := by
  have TT := Lib.hid hT
  have AW := Lib.hid (awake w hT)
  obtain ⟨vp, vc, rfl, hvcap, hvbig, -, -⟩ := id hv
  have hl1 : l.length ≤ 9223372036854775807 := by omega
  have HV := Lib.hid (And.intro hv hf)
  clear hT hv hf hvcap hvbig
  go_enter Tryd.func7, Tryd.ntmps7
  go_wp2_with fail
  with_reducible refine AW.out.mono ?_
  rintro e w0 ⟨rfl, hb0⟩
  go_wp2_with fail
  with_reducible refine (newS 3 2 0 w0 (by omega)).mono ?_
  rintro e w1 ⟨c, rfl, hG1, hb1⟩
  have B1 := Lib.hid (hb0.trans (hb1.mono hb0.size))
  have O1 := Lib.hid (OState.start (hG1.mono hb0.size) B1.out)
  obtain ⟨mb, hmb⟩ : ∃ mb, mb = w1.heap.size := ⟨_, rfl⟩
  rw [← hmb] at O1
  clear hb0 hb1 hG1 AW
  have hmm := @run_makeMap Tryd.prog
  go_wp2_with fail
  rw [← hmb]
  obtain ⟨W1, hW1⟩ : ∃ W1, W1 = w1.alloc (.map #[] 0) := ⟨_, rfl⟩
  rw [← hW1] at O1 ⊢
  clear hmb hW1 B1
  go_loopg [23] l.length (fun q i wr => ∃ (k : Nat) (g : Gz) (L : List KV), q = l.length - k ∧ k ≤ l.length ∧ i = .int .i64 k ∧ OState w c mb g L wr ∧ GOk g ∧ OpenOk g L)
  case atStart => exact ⟨0, ⟨3, 2, 0, []⟩, [], rfl, by omega, rfl, O1.out, ok_new 3 2 0 (by decide), OpenOk.start _ _ _⟩
  case round =>
    obtain ⟨k, g, L, rfl, hk, rfl, hO, hok, hop⟩ := hrel
    have ST := Lib.hid (And.intro hO (And.intro hok hop))
    by_cases hlt : k < l.length
    · obtain ⟨b, off, vp1, vo1, vv1, vh1, rfl, hc, hn⟩ := (HV.out.1.below hO.since).elem hlt
      have FT := Lib.hid (HV.out.2 _ (List.getElem_mem hlt))
      obtain ⟨CS, hCS⟩ : ∃ CS : List Value, CS = l[k].cells vp1 vo1 vv1 vh1 := ⟨_, rfl⟩
      obtain ⟨NC, hNC⟩ : ∃ NC : Array Value, NC = l[k].note.cells vp1 vo1 vv1 vh1 := ⟨_, rfl⟩
      have LEN : CS.length = 20 := by rw [hCS]; rfl
      have SZ : (Tryd.prog.info? 61).map (·.size) = some CS.length := by rw [LEN]; kernel_rfl
      have SZ' : (Tryd.prog.info? 61).map (·.size) = some CS.toArray.size := by rw [List.size_toArray, LEN]; kernel_rfl
      have RA : wr.rangeAt b (off + k * 20) CS := by rw [hCS]; exact hc
      have ONE : CS.toArray.all (·.oneCell') = true := by rw [hCS]; exact hn.one20
      have hsz : (#[.int .u8 0, .int .i64 0, .int .u8 0, .int .u64 0, .int .u64 0, .int .u64 0, .int .u64 0, .int .u64 0, .int .u64 0, .int .u64 0, .int .i64 0, .int .i64 0, .int .i64 0, .int .i64 0, .slice none 0 0, .slice none 0 0, .slice none 0 0, .slice none 0 0, .int .u64 0, .int .u64 0] : Array Value).size = CS.toArray.size := by rw [show CS.toArray.size = 20 by rw [List.size_toArray, LEN]]; rfl
      obtain ⟨Wa, hWa⟩ : ∃ Wa, Wa = (wr.alloc (.cells #[.int .u8 0, .int .i64 0, .int .u8 0, .int .u64 0, .int .u64 0, .int .u64 0, .int .u64 0, .int .u64 0, .int .u64 0, .int .u64 0, .int .i64 0, .int .i64 0, .int .i64 0, .int .i64 0, .slice none 0 0, .slice none 0 0, .slice none 0 0, .slice none 0 0, .int .u64 0, .int .u64 0] 61)).setRow wr.heap.size CS.toArray := ⟨_, rfl⟩
      have ba : Below wr.heap.size wr Wa := by rw [hWa]; exact below_setRow ((Below.refl _ _).alloc (Nat.le_refl _) _) (Nat.le_refl _) _
      have ya : Wa.heap[wr.heap.size]? = some (.cells CS.toArray 61 (0, 0)) := by rw [hWa]; exact setRow_heap _ _ _ _ _ _ (heap_alloc_new _ _)
      have RB : Wa.rangeAt wr.heap.size 2 NC.toList := fun j u hj => by
        have hj16 : j < 16 := by
          have := (List.getElem?_eq_some_iff.1 hj).1
          rw [hNC] at this
          exact this
        rw [cells_get ya (2 + j), List.getElem?_toArray, hCS, ← hj, hNC]
        exact op_note _ _ _ _ _ j hj16
      have FW := Lib.hid (show Calls Tryd.prog 19 #[.agg NC] Wa (NewNote Wa (fewN l[k].note)) from hNC ▸ refFew l[k].note _ _ _ _ _ Wa (hn.below ba))
      have x0 : Wa.cell? ⟨wr.heap.size, 0, none⟩ = some (.int .u8 l[k].act) := by rw [cells_get ya 0, List.getElem?_toArray, hCS]; rfl
      have x1 : Wa.cell? ⟨wr.heap.size, 1, none⟩ = some (.int .i64 l[k].frm) := by rw [cells_get ya 1, List.getElem?_toArray, hCS]; rfl
      have x18 : Wa.cell? ⟨wr.heap.size, 18, none⟩ = some (.int .u64 l[k].stamp) := by rw [cells_get ya 18, List.getElem?_toArray, hCS]; rfl
      have HWA := Lib.hid (And.intro hWa ba)
      have ML := Lib.hid (fewN_len l[k].note)
      have MK := Lib.hid (show 0 ≤ (fewN l[k].note).kind ∧ (fewN l[k].note).kind ≤ 255 from FT.out.note.kind)
      obtain ⟨m, hm⟩ : ∃ m, m = fewN l[k].note := ⟨_, rfl⟩
      rw [← hm] at FW ML MK
      have NSZ : (Tryd.prog.info? 53).map (·.size) = some NC.toList.length := by rw [hNC]; kernel_rfl
      clear hO hok hop hc hn hm hCS hNC ya ba hWa
      go_upto_region 8 with (first | refine wpList_load_mid rfl 61 _ rfl b (off + k * 20) (by rfl) CS _ RA Tryd.underlying61 rfl SZ ?_ | refine wpList_store_row rfl 61 _ _ rfl wr.heap.size CS.toArray (by rfl) (by rfl) 61 #[.int .u8 0, .int .i64 0, .int .u8 0, .int .u64 0, .int .u64 0, .int .u64 0, .int .u64 0, .int .u64 0, .int .u64 0, .int .u64 0, .int .i64 0, .int .i64 0, .int .i64 0, .int .i64 0, .slice none 0 0, .slice none 0 0, .slice none 0 0, .slice none 0 0, .int .u64 0, .int .u64 0] (heap_alloc_new _ _) SZ' hsz ONE ?_)
      rw [← HWA.out.1]
      have OA := Lib.hid (ST.out.1.below HWA.out.2)
      by_cases h60 : k < 60
      · have hkk : ¬ 60 ≤ k := by omega
        have hkk' : ¬ (60 : Int) ≤ (k : Int) := by omega
        go_wp2_with (refine wpList_load_mid rfl 53 _ rfl wr.heap.size 2 (by rfl) NC.toList _ RB Tryd.underlying53 rfl NSZ ?_; simp only [Array.toArray_toList])
        with_reducible refine FW.out.mono ?_
        rintro e w5 ⟨vp5, vo5, vv5, vh5, rfl, hN5, -, -, hb5⟩
        obtain ⟨MC, hMC⟩ : ∃ MC : Array Value, MC = m.cells vp5 vo5 vv5 vh5 := ⟨_, rfl⟩
        rw [← hMC]
        have MSZ : (Tryd.prog.info? 37).map (·.size) = some MC.size := by rw [hMC]; kernel_rfl
        have MONE : MC.all (·.oneCell') = true := by rw [hMC]; exact hN5.one16
        have hmz : (#[.int .u8 0, .int .u64 0, .int .u64 0, .int .u64 0, .int .u64 0, .int .u64 0, .int .u64 0, .int .u64 0, .int .i64 0, .int .i64 0, .int .i64 0, .int .i64 0, .slice none 0 0, .slice none 0 0, .slice none 0 0, .slice none 0 0] : Array Value).size = MC.size := by rw [hMC]; rfl
        obtain ⟨W6, hW6⟩ : ∃ W6, W6 = (w5.alloc (.cells #[.int .u8 0, .int .u64 0, .int .u64 0, .int .u64 0, .int .u64 0, .int .u64 0, .int .u64 0, .int .u64 0, .int .i64 0, .int .i64 0, .int .i64 0, .int .i64 0, .slice none 0 0, .slice none 0 0, .slice none 0 0, .slice none 0 0] 37)).setRow w5.heap.size MC := ⟨_, rfl⟩
        have b6 : Below w5.heap.size w5 W6 := by rw [hW6]; exact below_setRow ((Below.refl _ _).alloc (Nat.le_refl _) _) (Nat.le_refl _) _
        have y6 : W6.heap[w5.heap.size]? = some (.cells MC 37 (0, 0)) := by rw [hW6]; exact setRow_heap _ _ _ _ _ _ (heap_alloc_new _ _)
        have z6 : W6.cell? ⟨w5.heap.size, 6, none⟩ = some (.int .u64 m.query) := by rw [cells_get y6 6, hMC]; rfl
        have b56 := Lib.hid (hb5.trans (b6.mono hb5.size))
        have b5 := Lib.hid hb5.size
        have d0 := below_cells b56.out x0
        have d1 := below_cells b56.out x1
        have d18 := below_cells b56.out x18
        have NV := Lib.hid (show NoteV W6 (fun k => Wa.heap.size ≤ k ∧ k < W6.heap.size) m vp5 vo5 vv5 vh5 from ⟨hN5.parts.below b6, (hN5.ops.below b6).mono (fun k hk => ⟨hk.1, Nat.lt_of_lt_of_le hk.2.1 b6.size⟩), hN5.vec.below b6, (hN5.hits.below b6).mono (fun k hk => ⟨hk.1, Nat.lt_of_lt_of_le hk.2.1 b6.size⟩)⟩)
        have HMC := Lib.hid hMC
        have HW6 := Lib.hid hW6
        clear hN5 hb5 b6 hMC hW6 x0 x1 x18 RA RB FW
        go_upto_region 10 with (refine wpList_store_row rfl 37 _ _ rfl w5.heap.size MC (by rfl) (by rfl) 37 #[.int .u8 0, .int .u64 0, .int .u64 0, .int .u64 0, .int .u64 0, .int .u64 0, .int .u64 0, .int .u64 0, .int .i64 0, .int .i64 0, .int .i64 0, .int .i64 0, .slice none 0 0, .slice none 0 0, .slice none 0 0, .slice none 0 0] (heap_alloc_new _ _) MSZ hmz MONE ?_)
        rw [← HW6.out]
        have O6 := Lib.hid (ST.out.1.below (HWA.out.2.trans (b56.out.mono HWA.out.2.size)))
        have Y6 := Lib.hid (show W6.heap[w5.heap.size]? = some (.cells MC 37 (0, 0)) from y6)
        have BA6 := Lib.hid (HWA.out.2.trans (b56.out.mono HWA.out.2.size))
        have fa := FT.out.act.1
        have fs := FT.out.stamp.1
        have hl6 : wr.heap.size < W6.heap.size ∧ w5.heap.size < W6.heap.size := ⟨lt_of_cell d0, lt_of_cell z6⟩
        have hr5 : wr.heap.size ≤ w5.heap.size := by have h1 := HWA.out.2.size; have h2 := b5.out; omega
        have MSZ2 : (Tryd.prog.info? 37).map (·.size) = some MC.size := MSZ
        have LN6 := Lib.hid (show Calls Tryd.prog 15 #[.pointer (some ⟨c, 0, none⟩)] W6 fun e w' => e = .returned (.int .i64 g.l.length) ∧ W6 = w' from lenO O6.out)
        obtain ⟨ls, g', hz⟩ : ∃ ls g', askZ g l[k].frm m (l[k].stamp % 100) 0 = (ls, g') := ⟨_, _, rfl⟩
        have AK := Lib.hid (show Calls Tryd.prog 11 #[.pointer (some ⟨c, 0, none⟩), .int .i64 l[k].frm, .agg MC, .int .u64 (l[k].stamp % 100), .int .u64 0] W6 fun e w' => (∃ v, e = .returned v ∧ ToldAt w c mb g' L ls W6 v w') ∧ ∀ k, wr.heap.size ≤ k → k < W6.heap.size → w'.heap[k]? = W6.heap[k]? from by
          have h1 := askO ST.out.1 BA6.out TT.out ST.out.2.1 _ m vp5 vo5 vv5 vh5 l[k].frm (l[k].stamp % 100) 0 NV.out MK.out (by have := ML.out; omega)
          rw [hz, ← HMC.out] at h1
          exact h1)
        obtain ⟨lh, gh, hzh⟩ : ∃ lh gh, hearZ g l[k].frm m = (lh, gh) := ⟨_, _, rfl⟩
        have HK := Lib.hid (show Calls Tryd.prog 13 #[.pointer (some ⟨c, 0, none⟩), .int .i64 l[k].frm, .agg MC] W6 fun e w' => ∃ v, e = .returned v ∧ ToldAt w c mb gh L lh W6 v w' from by
          have h1 := hearO TT.out ST.out.2.1 _ m vp5 vo5 vv5 vh5 l[k].frm NV.out MK.out (by have := ML.out; omega) Wa (fun k h => h) OA.out b56.out
          rw [hzh, ← HMC.out] at h1
          exact h1)
        have ON := Lib.hid (show _ ∨ _ from hz ▸ once_ask ST.out.2.2 l[k].frm m (l[k].stamp % 100) 0)
        have OH := Lib.hid (show Goes L lh ∧ OpenOk gh (strikes L lh) from by have h1 := once_hear ST.out.2.2 l[k].frm m; rw [hzh] at h1; exact h1)
        have GK := Lib.hid (show GOk g' from by have h1 := askZ_ok ST.out.2.1 l[k].frm m (l[k].stamp % 100) 0; rw [hz] at h1; exact h1)
        have GH := Lib.hid (show GOk gh from by have h1 := hearZ_ok ST.out.2.1 l[k].frm m; rw [hzh] at h1; exact h1)
        have hmb6 : mb < W6.heap.size := O6.out.lt
        clear y6 hz hzh
        iterate 8 go_step
        go_cut [9] (fun s9 wc => ∃ (B1 : Nat) (rs : List Mv) (ls : List (Int × Nt)) (g' : Gz) (L' : List KV), mb < B1 ∧ wc.ownsRow B1 44 17 s9 rs.length (flatM rs) ∧ rs.map Mv.says = ls ∧ (∀ r ∈ rs, r.cells.toArray.all (·.oneCell') = true) ∧ OState w c mb g' L' wc ∧ GOk g' ∧ Goes L' ls ∧ OpenOk g' (strikes L' ls))
        case first =>
          have hx : l[k].act % 11 = 0 ∨ l[k].act % 11 = 1 ∨ l[k].act % 11 = 2 ∨ l[k].act % 11 = 9 ∨ l[k].act % 11 = 10 ∨ (¬ l[k].act % 11 = 0 ∧ ¬ l[k].act % 11 = 1 ∧ ¬ l[k].act % 11 = 2 ∧ ¬ l[k].act % 11 = 9 ∧ ¬ l[k].act % 11 = 10) := by omega
          rcases hx with e0 | e0 | e0 | e0 | e0 | ⟨n0, n1, n2, n9, n10⟩
          · skip
            go_wp2_with fail
            with_reducible refine LN6.out.mono ?_
            rintro e w' ⟨rfl, rfl⟩
            go_wp2_with (refine wpList_load_row rfl 37 _ rfl w5.heap.size (by rfl) 37 MC (0, 0) _ Y6.out Tryd.underlying37 rfl MSZ2 ?_)
            with_reducible refine AK.out.mono ?_
            rintro e w7 ⟨⟨v7, rfl, rs7, ho7, hs7, h17, hO7⟩, hk7⟩
            obtain ⟨q7, m7, c7, rfl⟩ := own_form ho7
            obtain rfl : m7 = rs7.length := own_len ho7
            have LN7 := Lib.hid (show Calls Tryd.prog 15 #[.pointer (some ⟨c, 0, none⟩)] w7 fun e w' => e = .returned (.int .i64 g'.l.length) ∧ w7 = w' from lenO hO7)
            have d17 : w7.cell? ⟨wr.heap.size, 1, none⟩ = some (.int .i64 l[k].frm) := by rw [World.cell?_of_block (hk7 _ (Nat.le_refl _) hl6.1)]; exact d1
            have z67 : w7.cell? ⟨w5.heap.size, 6, none⟩ = some (.int .u64 m.query) := by rw [World.cell?_of_block (hk7 _ hr5 hl6.2)]; exact z6
            have N7 := Lib.hid (And.intro ho7 (And.intro hs7 (And.intro h17 hO7)))
            obtain hC | ⟨hge, hC⟩ := ON.out
            · have hgt := hC.1
              have hgt' : (g.l.length : Int) < (g'.l.length : Int) := by omega
              obtain ⟨w8, hput, hM8, hg8, hs8⟩ := run_putF (P := Tryd.prog) pair_keyF Tryd.underlying59 hO7.map (l[k].frm, m.query) (.bool true)
              unfold pairV at hput
              have O8 := Lib.hid (hO7.put hM8 hg8)
              have h8 := Lib.hid (show w8.ownsRow W6.heap.size 44 17 (.slice q7 rs7.length c7) rs7.length (flatM rs7) from own_agree ho7 (fun j e => hg8.block j (ho7.lt j e).2 (fun e2 => by have h1 := (ho7.lt j e).1; have h2 := Option.some.inj e2; omega)))
              have HC := Lib.hid hC
              clear ho7 hs7 h17 hO7 hM8 hg8 hC hk7
              go_wp2_with fail
              with_reducible refine LN7.out.mono ?_
              rintro e w' ⟨rfl, rfl⟩
              go_wp2_with fail
              go_meet
              exact ⟨W6.heap.size, rs7, ls, g', _, hmb6, h8.out, N7.out.2.1, N7.out.2.2.1, O8.out, GK.out, goes_none HC.out.2.2, by rw [strikes_none HC.out.2.2]; exact HC.out.2.1⟩
            · have hle : ¬ g.l.length < g'.l.length := by rw [hge]; exact Nat.lt_irrefl _
              have hle' : ¬ (g.l.length : Int) < (g'.l.length : Int) := by omega
              rcases hC with hC | ⟨⟨er, hC⟩, hno⟩
              · by_cases h1 : rs7.length = 1
                · have h1' : (rs7.length : Int) = 1 := by omega
                  obtain ⟨b7, rfl, -, -, -, hc7⟩ := mails_at ho7 (by omega)
                  have hkd : ¬ rs7[0].note.kind = 11 := fun e => by
                    have := hC rs7[0].says (by rw [← hs7]; exact List.mem_map.2 ⟨_, List.getElem_mem (by omega), rfl⟩)
                    simp [isRes, Mv.says, e] at this
                  have c71 : w7.cell? ⟨b7, 1, none⟩ = some (.int .u8 rs7[0].note.kind) := hc7 0 1 _ (by omega) rfl
                  have HC := Lib.hid hC
                  clear ho7 hs7 h17 hO7 hc7 hC hk7
                  go_wp2_with fail
                  with_reducible refine LN7.out.mono ?_
                  rintro e w' ⟨rfl, rfl⟩
                  go_wp2_with fail
                  go_meet
                  exact ⟨W6.heap.size, rs7, ls, g', L, hmb6, (by have h9 := N7.out.1; simp only [h1] at h9 ⊢; exact h9), N7.out.2.1, N7.out.2.2.1, N7.out.2.2.2, GK.out, goes_none HC.out, by rw [strikes_none HC.out, hge]; exact ST.out.2.2⟩
                · have h1' : ¬ (rs7.length : Int) = 1 := by omega
                  have HC := Lib.hid hC
                  clear ho7 hs7 h17 hO7 hC hk7
                  go_wp2_with fail
                  with_reducible refine LN7.out.mono ?_
                  rintro e w' ⟨rfl, rfl⟩
                  go_wp2_with fail
                  go_meet
                  exact ⟨W6.heap.size, rs7, ls, g', L, hmb6, N7.out.1, N7.out.2.1, N7.out.2.2.1, N7.out.2.2.2, GK.out, goes_none HC.out, by rw [strikes_none HC.out, hge]; exact ST.out.2.2⟩
              · obtain ⟨f1, f2, f3, f4, rs8, rfl, hs8⟩ := says_cons (hs7.trans hC)
                obtain rfl := says_nil hs8
                obtain ⟨b7, rfl, -, -, -, hc7⟩ := mails_at ho7 (by simp)
                have c71 : w7.cell? ⟨b7, 1, none⟩ = some (.int .u8 11) := hc7 0 1 _ (by simp) rfl
                have hlook := run_lookF (P := Tryd.prog) pair_keyF Tryd.underlying59 hO7.map (z := .bool false) (by go_simp) (l[k].frm, m.query) false
                rw [hno] at hlook
                unfold pairV at hlook
                simp only [Bool.false_eq_true, if_false, Option.getD_none] at hlook
                have RG := Lib.hid (show OState w c mb g L w7 from hge ▸ hO7)
                clear ho7 hs7 h17 hO7 hc7 hs8 hk7
                go_wp2_with fail
                with_reducible refine LN7.out.mono ?_
                rintro e w' ⟨rfl, rfl⟩
                go_wp2_with fail
                go_roundg (l.length - (k + 1))
                case measure => omega
                case rel => exact ⟨k + 1, g, L, rfl, by omega, by go_num, RG.out, ST.out.2.1, ST.out.2.2⟩
          · skip
            go_wp2_with fail
            with_reducible refine LN6.out.mono ?_
            rintro e w' ⟨rfl, rfl⟩
            go_wp2_with (refine wpList_load_row rfl 37 _ rfl w5.heap.size (by rfl) 37 MC (0, 0) _ Y6.out Tryd.underlying37 rfl MSZ2 ?_)
            with_reducible refine AK.out.mono ?_
            rintro e w7 ⟨⟨v7, rfl, rs7, ho7, hs7, h17, hO7⟩, hk7⟩
            obtain ⟨q7, m7, c7, rfl⟩ := own_form ho7
            obtain rfl : m7 = rs7.length := own_len ho7
            have LN7 := Lib.hid (show Calls Tryd.prog 15 #[.pointer (some ⟨c, 0, none⟩)] w7 fun e w' => e = .returned (.int .i64 g'.l.length) ∧ w7 = w' from lenO hO7)
            have d17 : w7.cell? ⟨wr.heap.size, 1, none⟩ = some (.int .i64 l[k].frm) := by rw [World.cell?_of_block (hk7 _ (Nat.le_refl _) hl6.1)]; exact d1
            have z67 : w7.cell? ⟨w5.heap.size, 6, none⟩ = some (.int .u64 m.query) := by rw [World.cell?_of_block (hk7 _ hr5 hl6.2)]; exact z6
            have N7 := Lib.hid (And.intro ho7 (And.intro hs7 (And.intro h17 hO7)))
            obtain hC | ⟨hge, hC⟩ := ON.out
            · have hgt := hC.1
              have hgt' : (g.l.length : Int) < (g'.l.length : Int) := by omega
              obtain ⟨w8, hput, hM8, hg8, hs8⟩ := run_putF (P := Tryd.prog) pair_keyF Tryd.underlying59 hO7.map (l[k].frm, m.query) (.bool true)
              unfold pairV at hput
              have O8 := Lib.hid (hO7.put hM8 hg8)
              have h8 := Lib.hid (show w8.ownsRow W6.heap.size 44 17 (.slice q7 rs7.length c7) rs7.length (flatM rs7) from own_agree ho7 (fun j e => hg8.block j (ho7.lt j e).2 (fun e2 => by have h1 := (ho7.lt j e).1; have h2 := Option.some.inj e2; omega)))
              have HC := Lib.hid hC
              clear ho7 hs7 h17 hO7 hM8 hg8 hC hk7
              go_wp2_with fail
              with_reducible refine LN7.out.mono ?_
              rintro e w' ⟨rfl, rfl⟩
              go_wp2_with fail
              go_meet
              exact ⟨W6.heap.size, rs7, ls, g', _, hmb6, h8.out, N7.out.2.1, N7.out.2.2.1, O8.out, GK.out, goes_none HC.out.2.2, by rw [strikes_none HC.out.2.2]; exact HC.out.2.1⟩
            · have hle : ¬ g.l.length < g'.l.length := by rw [hge]; exact Nat.lt_irrefl _
              have hle' : ¬ (g.l.length : Int) < (g'.l.length : Int) := by omega
              rcases hC with hC | ⟨⟨er, hC⟩, hno⟩
              · by_cases h1 : rs7.length = 1
                · have h1' : (rs7.length : Int) = 1 := by omega
                  obtain ⟨b7, rfl, -, -, -, hc7⟩ := mails_at ho7 (by omega)
                  have hkd : ¬ rs7[0].note.kind = 11 := fun e => by
                    have := hC rs7[0].says (by rw [← hs7]; exact List.mem_map.2 ⟨_, List.getElem_mem (by omega), rfl⟩)
                    simp [isRes, Mv.says, e] at this
                  have c71 : w7.cell? ⟨b7, 1, none⟩ = some (.int .u8 rs7[0].note.kind) := hc7 0 1 _ (by omega) rfl
                  have HC := Lib.hid hC
                  clear ho7 hs7 h17 hO7 hc7 hC hk7
                  go_wp2_with fail
                  with_reducible refine LN7.out.mono ?_
                  rintro e w' ⟨rfl, rfl⟩
                  go_wp2_with fail
                  go_meet
                  exact ⟨W6.heap.size, rs7, ls, g', L, hmb6, (by have h9 := N7.out.1; simp only [h1] at h9 ⊢; exact h9), N7.out.2.1, N7.out.2.2.1, N7.out.2.2.2, GK.out, goes_none HC.out, by rw [strikes_none HC.out, hge]; exact ST.out.2.2⟩
                · have h1' : ¬ (rs7.length : Int) = 1 := by omega
                  have HC := Lib.hid hC
                  clear ho7 hs7 h17 hO7 hC hk7
                  go_wp2_with fail
                  with_reducible refine LN7.out.mono ?_
                  rintro e w' ⟨rfl, rfl⟩
                  go_wp2_with fail
                  go_meet
                  exact ⟨W6.heap.size, rs7, ls, g', L, hmb6, N7.out.1, N7.out.2.1, N7.out.2.2.1, N7.out.2.2.2, GK.out, goes_none HC.out, by rw [strikes_none HC.out, hge]; exact ST.out.2.2⟩
              · obtain ⟨f1, f2, f3, f4, rs8, rfl, hs8⟩ := says_cons (hs7.trans hC)
                obtain rfl := says_nil hs8
                obtain ⟨b7, rfl, -, -, -, hc7⟩ := mails_at ho7 (by simp)
                have c71 : w7.cell? ⟨b7, 1, none⟩ = some (.int .u8 11) := hc7 0 1 _ (by simp) rfl
                have hlook := run_lookF (P := Tryd.prog) pair_keyF Tryd.underlying59 hO7.map (z := .bool false) (by go_simp) (l[k].frm, m.query) false
                rw [hno] at hlook
                unfold pairV at hlook
                simp only [Bool.false_eq_true, if_false, Option.getD_none] at hlook
                have RG := Lib.hid (show OState w c mb g L w7 from hge ▸ hO7)
                clear ho7 hs7 h17 hO7 hc7 hs8 hk7
                go_wp2_with fail
                with_reducible refine LN7.out.mono ?_
                rintro e w' ⟨rfl, rfl⟩
                go_wp2_with fail
                go_roundg (l.length - (k + 1))
                case measure => omega
                case rel => exact ⟨k + 1, g, L, rfl, by omega, by go_num, RG.out, ST.out.2.1, ST.out.2.2⟩
          · skip
            go_wp2_with fail
            with_reducible refine LN6.out.mono ?_
            rintro e w' ⟨rfl, rfl⟩
            go_wp2_with (refine wpList_load_row rfl 37 _ rfl w5.heap.size (by rfl) 37 MC (0, 0) _ Y6.out Tryd.underlying37 rfl MSZ2 ?_)
            with_reducible refine AK.out.mono ?_
            rintro e w7 ⟨⟨v7, rfl, rs7, ho7, hs7, h17, hO7⟩, hk7⟩
            obtain ⟨q7, m7, c7, rfl⟩ := own_form ho7
            obtain rfl : m7 = rs7.length := own_len ho7
            have LN7 := Lib.hid (show Calls Tryd.prog 15 #[.pointer (some ⟨c, 0, none⟩)] w7 fun e w' => e = .returned (.int .i64 g'.l.length) ∧ w7 = w' from lenO hO7)
            have d17 : w7.cell? ⟨wr.heap.size, 1, none⟩ = some (.int .i64 l[k].frm) := by rw [World.cell?_of_block (hk7 _ (Nat.le_refl _) hl6.1)]; exact d1
            have z67 : w7.cell? ⟨w5.heap.size, 6, none⟩ = some (.int .u64 m.query) := by rw [World.cell?_of_block (hk7 _ hr5 hl6.2)]; exact z6
            have N7 := Lib.hid (And.intro ho7 (And.intro hs7 (And.intro h17 hO7)))
            obtain hC | ⟨hge, hC⟩ := ON.out
            · have hgt := hC.1
              have hgt' : (g.l.length : Int) < (g'.l.length : Int) := by omega
              obtain ⟨w8, hput, hM8, hg8, hs8⟩ := run_putF (P := Tryd.prog) pair_keyF Tryd.underlying59 hO7.map (l[k].frm, m.query) (.bool true)
              unfold pairV at hput
              have O8 := Lib.hid (hO7.put hM8 hg8)
              have h8 := Lib.hid (show w8.ownsRow W6.heap.size 44 17 (.slice q7 rs7.length c7) rs7.length (flatM rs7) from own_agree ho7 (fun j e => hg8.block j (ho7.lt j e).2 (fun e2 => by have h1 := (ho7.lt j e).1; have h2 := Option.some.inj e2; omega)))
              have HC := Lib.hid hC
              clear ho7 hs7 h17 hO7 hM8 hg8 hC hk7
              go_wp2_with fail
              with_reducible refine LN7.out.mono ?_
              rintro e w' ⟨rfl, rfl⟩
              go_wp2_with fail
              go_meet
              exact ⟨W6.heap.size, rs7, ls, g', _, hmb6, h8.out, N7.out.2.1, N7.out.2.2.1, O8.out, GK.out, goes_none HC.out.2.2, by rw [strikes_none HC.out.2.2]; exact HC.out.2.1⟩
            · have hle : ¬ g.l.length < g'.l.length := by rw [hge]; exact Nat.lt_irrefl _
              have hle' : ¬ (g.l.length : Int) < (g'.l.length : Int) := by omega
              rcases hC with hC | ⟨⟨er, hC⟩, hno⟩
              · by_cases h1 : rs7.length = 1
                · have h1' : (rs7.length : Int) = 1 := by omega
                  obtain ⟨b7, rfl, -, -, -, hc7⟩ := mails_at ho7 (by omega)
                  have hkd : ¬ rs7[0].note.kind = 11 := fun e => by
                    have := hC rs7[0].says (by rw [← hs7]; exact List.mem_map.2 ⟨_, List.getElem_mem (by omega), rfl⟩)
                    simp [isRes, Mv.says, e] at this
                  have c71 : w7.cell? ⟨b7, 1, none⟩ = some (.int .u8 rs7[0].note.kind) := hc7 0 1 _ (by omega) rfl
                  have HC := Lib.hid hC
                  clear ho7 hs7 h17 hO7 hc7 hC hk7
                  go_wp2_with fail
                  with_reducible refine LN7.out.mono ?_
                  rintro e w' ⟨rfl, rfl⟩
                  go_wp2_with fail
                  go_meet
                  exact ⟨W6.heap.size, rs7, ls, g', L, hmb6, (by have h9 := N7.out.1; simp only [h1] at h9 ⊢; exact h9), N7.out.2.1, N7.out.2.2.1, N7.out.2.2.2, GK.out, goes_none HC.out, by rw [strikes_none HC.out, hge]; exact ST.out.2.2⟩
                · have h1' : ¬ (rs7.length : Int) = 1 := by omega
                  have HC := Lib.hid hC
                  clear ho7 hs7 h17 hO7 hC hk7
                  go_wp2_with fail
                  with_reducible refine LN7.out.mono ?_
                  rintro e w' ⟨rfl, rfl⟩
                  go_wp2_with fail
                  go_meet
                  exact ⟨W6.heap.size, rs7, ls, g', L, hmb6, N7.out.1, N7.out.2.1, N7.out.2.2.1, N7.out.2.2.2, GK.out, goes_none HC.out, by rw [strikes_none HC.out, hge]; exact ST.out.2.2⟩
              · obtain ⟨f1, f2, f3, f4, rs8, rfl, hs8⟩ := says_cons (hs7.trans hC)
                obtain rfl := says_nil hs8
                obtain ⟨b7, rfl, -, -, -, hc7⟩ := mails_at ho7 (by simp)
                have c71 : w7.cell? ⟨b7, 1, none⟩ = some (.int .u8 11) := hc7 0 1 _ (by simp) rfl
                have hlook := run_lookF (P := Tryd.prog) pair_keyF Tryd.underlying59 hO7.map (z := .bool false) (by go_simp) (l[k].frm, m.query) false
                rw [hno] at hlook
                unfold pairV at hlook
                simp only [Bool.false_eq_true, if_false, Option.getD_none] at hlook
                have RG := Lib.hid (show OState w c mb g L w7 from hge ▸ hO7)
                clear ho7 hs7 h17 hO7 hc7 hs8 hk7
                go_wp2_with fail
                with_reducible refine LN7.out.mono ?_
                rintro e w' ⟨rfl, rfl⟩
                go_wp2_with fail
                go_roundg (l.length - (k + 1))
                case measure => omega
                case rel => exact ⟨k + 1, g, L, rfl, by omega, by go_num, RG.out, ST.out.2.1, ST.out.2.2⟩
          · go_wp2_with fail
            with_reducible refine (wakeO O6.out ST.out.2.1).mono ?_
            rintro e w7 ⟨v7, rfl, rs7, ho7, hs7, h17, hO7⟩
            obtain ⟨q7, m7, c7, rfl⟩ := own_form ho7
            have N7 := Lib.hid (And.intro ho7 (And.intro hs7 (And.intro h17 hO7)))
            have hwk := wake_kind ST.out.2.2.kinds
            clear ho7 hs7 h17 hO7
            go_wp2_with fail
            go_meet
            exact ⟨W6.heap.size, rs7, _, g, L, hmb6, N7.out.1, N7.out.2.1, N7.out.2.2.1, N7.out.2.2.2, ST.out.2.1, goes_none hwk, by rw [strikes_none hwk]; exact ST.out.2.2⟩
          · go_wp2_with fail
            with_reducible refine (quitO O6.out ST.out.2.1).mono ?_
            rintro e w7 ⟨v7, rfl, rs7, ho7, hs7, h17, hO7⟩
            obtain ⟨q7, m7, c7, rfl⟩ := own_form ho7
            have N7 := Lib.hid (And.intro ho7 (And.intro hs7 (And.intro h17 hO7)))
            clear ho7 hs7 h17 hO7
            go_wp2_with fail
            go_meet
            exact ⟨W6.heap.size, rs7, _, _, L, hmb6, N7.out.1, N7.out.2.1, N7.out.2.2.1, N7.out.2.2.2, quit_ok ST.out.2.1, (once_quit ST.out.2.2).1, (once_quit ST.out.2.2).2⟩
          · go_wp2_with (refine wpList_load_row rfl 37 _ rfl w5.heap.size (by rfl) 37 MC (0, 0) _ Y6.out Tryd.underlying37 rfl MSZ2 ?_)
            with_reducible refine HK.out.mono ?_
            rintro e w7 ⟨v7, rfl, rs7, ho7, hs7, h17, hO7⟩
            obtain ⟨q7, m7, c7, rfl⟩ := own_form ho7
            have N7 := Lib.hid (And.intro ho7 (And.intro hs7 (And.intro h17 hO7)))
            clear ho7 hs7 h17 hO7
            go_wp2_with fail
            go_meet
            exact ⟨W6.heap.size, rs7, lh, gh, L, hmb6, N7.out.1, N7.out.2.1, N7.out.2.2.1, N7.out.2.2.2, GH.out, OH.out.1, OH.out.2⟩
        case rest =>
        obtain ⟨B1, rs, ls2, g2, L2, hB1, hrow, hsays, h17, hO2, hok2, hgo, hop2⟩ := hcut
        obtain ⟨wm, rfl⟩ : ∃ wm : World, wm = wc := ⟨_, rfl⟩
        obtain ⟨q2, m2, cp2, rfl⟩ := own_form hrow
        obtain rfl : m2 = rs.length := own_len hrow
        have hll : ls2.length = rs.length := by rw [← hsays]; simp
        have hrl : rs.length ≤ 9223372036854775807 := own_short hrow
        have R2 := Lib.hid (And.intro hB1 (And.intro hrow (And.intro hsays (And.intro h17 (And.intro hO2 (And.intro hok2 (And.intro hgo hop2)))))))
        clear hB1 hrow hsays h17 hO2 hok2 hgo hop2
        obtain ⟨wo, rfl⟩ : ∃ wo : World, wo = wr := ⟨_, rfl⟩
        go_wp2_with fail
        go_loopg [93] rs.length (fun q i wr2 => ∃ j : Nat, q = rs.length - j ∧ j ≤ rs.length ∧ i = .int .i64 j ∧ OState w c mb g2 (strikes L2 (ls2.take j)) wr2 ∧ wr2.ownsRow B1 44 17 (.slice q2 rs.length cp2) rs.length (flatM rs))
        case atStart => exact ⟨0, rfl, by omega, rfl, R2.out.2.2.2.2.1, R2.out.2.1⟩
        case round =>
          obtain ⟨j, rfl, hj, rfl, hOj, hrj⟩ := hrel
          by_cases hjl : j < rs.length
          · obtain ⟨b7, rfl, -, -, -, hc7⟩ := mails_at hrj (by omega)
            obtain ⟨MV, hMV⟩ : ∃ MV : List Value, MV = rs[j].cells := ⟨_, rfl⟩
            have MLN : MV.length = 17 := by rw [hMV]; exact Mv.cells_length _
            have RJ : wr.rangeAt b7 (j * 17) MV := by rw [hMV]; exact fun i u hi => hc7 j i u hjl hi
            have SJ : (Tryd.prog.info? 44).map (·.size) = some MV.length := by rw [MLN]; kernel_rfl
            have SJ' : (Tryd.prog.info? 44).map (·.size) = some MV.toArray.size := by rw [List.size_toArray, MLN]; kernel_rfl
            have OJ : MV.toArray.all (·.oneCell') = true := by rw [hMV]; exact R2.out.2.2.2.1 _ (List.getElem_mem hjl)
            have hjz : (#[.int .i64 0, .int .u8 0, .int .u64 0, .int .u64 0, .int .u64 0, .int .u64 0, .int .u64 0, .int .u64 0, .int .u64 0, .int .i64 0, .int .i64 0, .int .i64 0, .int .i64 0, .slice none 0 0, .slice none 0 0, .slice none 0 0, .slice none 0 0] : Array Value).size = MV.toArray.size := by rw [show MV.toArray.size = 17 by rw [List.size_toArray, MLN]]; rfl
            obtain ⟨Wb, hWb⟩ : ∃ Wb, Wb = (wr.alloc (.cells #[.int .i64 0, .int .u8 0, .int .u64 0, .int .u64 0, .int .u64 0, .int .u64 0, .int .u64 0, .int .u64 0, .int .u64 0, .int .i64 0, .int .i64 0, .int .i64 0, .int .i64 0, .slice none 0 0, .slice none 0 0, .slice none 0 0, .slice none 0 0] 44)).setRow wr.heap.size MV.toArray := ⟨_, rfl⟩
            have bb : Below wr.heap.size wr Wb := by rw [hWb]; exact below_setRow ((Below.refl _ _).alloc (Nat.le_refl _) _) (Nat.le_refl _) _
            have yb : Wb.heap[wr.heap.size]? = some (.cells MV.toArray 44 (0, 0)) := by rw [hWb]; exact setRow_heap _ _ _ _ _ _ (heap_alloc_new _ _)
            have e0 : Wb.cell? ⟨wr.heap.size, 0, none⟩ = some (.int .i64 rs[j].who) := by rw [cells_get yb 0, List.getElem?_toArray, hMV]; rfl
            have e1 : Wb.cell? ⟨wr.heap.size, 1, none⟩ = some (.int .u8 rs[j].note.kind) := by rw [cells_get yb 1, List.getElem?_toArray, hMV]; rfl
            have e7 : Wb.cell? ⟨wr.heap.size, 7, none⟩ = some (.int .u64 rs[j].note.query) := by rw [cells_get yb 7, List.getElem?_toArray, hMV]; rfl
            have OB := Lib.hid (hOj.below bb)
            have rowB := Lib.hid (own_below hrj bb)
            have hls : ls2[j]'(by omega) = rs[j].says := by
              have h1 := R2.out.2.2.1
              simp only [← h1, List.getElem_map]
            have sn := strikes_snoc L2 ls2 j (by omega)
            rw [hls] at sn
            have HWb := Lib.hid hWb
            have j0 : (0 : Int) ≤ (j : Int) := by omega
            have jl' : (j : Int) < (rs.length : Int) := by omega
            clear hOj hrj hc7 hMV bb yb hWb
            go_upto_region 30 with (first | refine wpList_load_mid rfl 44 _ rfl b7 (j * 17) (by rfl) MV _ RJ Tryd.underlying44 rfl SJ ?_ | refine wpList_store_row rfl 44 _ _ rfl wr.heap.size MV.toArray (by rfl) (by rfl) 44 #[.int .i64 0, .int .u8 0, .int .u64 0, .int .u64 0, .int .u64 0, .int .u64 0, .int .u64 0, .int .u64 0, .int .u64 0, .int .i64 0, .int .i64 0, .int .i64 0, .int .i64 0, .slice none 0 0, .slice none 0 0, .slice none 0 0, .slice none 0 0] (heap_alloc_new _ _) SJ' hjz OJ ?_)
            rw [← HWb.out]
            by_cases hkd : rs[j].note.kind = 11
            · have hres : isRes rs[j].says = true := by simp [isRes, Mv.says, hkd]
              have hopen : getK (strikes L2 (ls2.take j)) (rs[j].who, rs[j].note.query) = some (.bool true) := by
                have h1 := R2.out.2.2.2.2.2.2.1 j (by omega)
                rw [hls] at h1
                exact h1 hres
              unfold strike at sn
              rw [hres, if_pos rfl] at sn
              obtain ⟨Wk, hWk⟩ : ∃ Wk, Wk = Wb.alloc (.cells #[.int .i64 rs[j].who, .int .u64 rs[j].note.query] 63) := ⟨_, rfl⟩
              have bk : Below Wb.heap.size Wb Wk := by rw [hWk]; exact (Below.refl _ _).alloc (Nat.le_refl _) _
              have Ok := Lib.hid (OB.out.below bk)
              have hlook := run_lookF (P := Tryd.prog) pair_keyF Tryd.underlying59 Ok.out.map (z := .bool false) (by go_simp) (rs[j].who, rs[j].note.query) false
              rw [hopen] at hlook
              unfold pairV at hlook
              simp only [Bool.false_eq_true, if_false, Option.getD_some] at hlook
              obtain ⟨w9, hdel, hM9, hg9, hs9⟩ := run_delF (P := Tryd.prog) pair_keyF Tryd.underlying59 Ok.out.map (rs[j].who, rs[j].note.query)
              unfold pairV at hdel
              have k0 : Wk.cell? ⟨Wb.heap.size, 0, none⟩ = some (.int .i64 rs[j].who) := by rw [hWk]; go_simp
              have k1 : Wk.cell? ⟨Wb.heap.size, 1, none⟩ = some (.int .u64 rs[j].note.query) := by rw [hWk]; go_simp
              have NX := Lib.hid (show OState w c mb g2 (strikes L2 (ls2.take (j + 1))) w9 from by rw [sn]; exact Ok.out.put hM9 hg9)
              have rk := own_below rowB.out bk
              have row9 := Lib.hid (own_agree (w' := w9) rk (fun i e => hg9.block i (rk.lt i e).2 (fun e2 => by have h1 := (rk.lt i e).1; have h2 := Option.some.inj e2; have h3 := R2.out.1; omega)))
              have HWk := Lib.hid hWk
              clear hWk bk hopen sn hls hM9 hg9 rk
              go_upto_region 32 with fail
              rw [← HWk.out]
              go_wp2_with fail
              go_roundg (rs.length - (j + 1))
              case measure => omega
              case rel => exact ⟨j + 1, rfl, by omega, by go_num, NX.out, row9.out⟩
            · have hres : isRes rs[j].says = false := by simp [isRes, Mv.says, hkd]
              unfold strike at sn
              rw [hres] at sn
              simp only [Bool.false_eq_true, if_false] at sn
              have NX := Lib.hid (show OState w c mb g2 (strikes L2 (ls2.take (j + 1))) Wb from by rw [sn]; exact OB.out)
              clear sn hls
              go_wp2_with fail
              go_roundg (rs.length - (j + 1))
              case measure => omega
              case rel => exact ⟨j + 1, rfl, by omega, by go_num, NX.out, rowB.out⟩
          · obtain rfl : j = rs.length := by omega
            have hop3 := R2.out.2.2.2.2.2.2.2
            have hln := fun ty => run_len (P := Tryd.prog) Tryd.underlying59 hOj.map ty
            have htk : ls2.take rs.length = ls2 := List.take_of_length_le (by omega)
            rw [htk, hop3.length] at hln
            have Oj := Lib.hid (show OState w c mb g2 (strikes L2 ls2) wr from htk ▸ hOj)
            have LNj := Lib.hid (show Calls Tryd.prog 15 #[.pointer (some ⟨c, 0, none⟩)] wr fun e w' => e = .returned (.int .i64 g2.l.length) ∧ wr = w' from lenO hOj)
            clear hOj hrj hop3 htk
            go_wp2_with fail
            with_reducible refine LNj.out.mono ?_
            rintro e w' ⟨rfl, rfl⟩
            go_wp2_with fail
            go_roundg (l.length - (k + 1))
            case measure => omega
            case rel => exact ⟨k + 1, g2, _, rfl, by omega, by go_num, Oj.out, R2.out.2.2.2.2.2.1, R2.out.2.2.2.2.2.2.2⟩
      · have h60' : (60 : Int) ≤ (k : Int) := by omega
        have h60'' : 60 ≤ k := by omega
        clear RB x0 x1 x18 FW
        go_wp2_with fail
        with_reducible refine (quitO OA.out ST.out.2.1).mono ?_
        rintro e w9 ⟨v9, rfl, rs9, ho9, -, -, hO9⟩
        have LN := Lib.hid (show Calls Tryd.prog 15 #[.pointer (some ⟨c, 0, none⟩)] w9 fun e w' => e = .returned (.int .i64 0) ∧ w9 = w' from lenO hO9)
        have BF := Lib.hid hO9.since
        obtain ⟨q9, m9, c9, rfl⟩ := own_form ho9
        clear hO9 ho9
        go_wp2_with fail
        with_reducible refine LN.out.mono ?_
        rintro e w10 ⟨rfl, rfl⟩
        go_wp2_with fail
        go_ret
        exact ⟨rfl, BF.out⟩
    · obtain rfl : k = l.length := by omega
      clear hO hok hop
      go_wp2_with fail
      with_reducible refine (quitO ST.out.1 ST.out.2.1).mono ?_
      rintro e w9 ⟨v9, rfl, rs9, ho9, -, -, hO9⟩
      have LN := Lib.hid (show Calls Tryd.prog 15 #[.pointer (some ⟨c, 0, none⟩)] w9 fun e w' => e = .returned (.int .i64 0) ∧ w9 = w' from lenO hO9)
      have BF := Lib.hid hO9.since
      obtain ⟨q9, m9, c9, rfl⟩ := own_form ho9
      clear hO9 ho9
      go_wp2_with fail
      with_reducible refine LN.out.mono ?_
      rintro e w10 ⟨rfl, rfl⟩
      go_wp2_with fail
      go_ret
      exact ⟨rfl, BF.out⟩

end Go.Proofs.YtfmlhdikagogcaaDoor
