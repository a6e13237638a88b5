/-
  graph: Reach.
-/
import Derived.Test.YtdbeekdnehojnaaJ24
namespace Go.Proofs.Ytdbeekdnehojnaa
open Go.RowKit Go.ChangeMaps

theorem near_len {w : World} {p m : Nat} {Q : Gr} (h : GrAt w p m Q) (hs : ShutQ Q) (hn : Q.length ≤ 900000) : ∀ q ∈ Q, q.2.2.length ≤ 1000000 := by
  intro q hq
  obtain ⟨es, c, hi⟩ := h.inner q hq
  have h1 : (q.2.2.map (·.1)).Nodup := by
    have := hi.keys
    simpa [innerL, List.map_map, Function.comp_def] using this
  have := nodup_le h1 (K := Q.map (·.1)) (fun x hx => by
    obtain ⟨e, he, rfl⟩ := List.mem_map.1 hx
    exact hs q hq e he)
  simp only [List.length_map] at this
  omega

set_option maxRecDepth 100000 in
set_option maxHeartbeats 8000000 in
theorem gReach (w : World) (p m : Nat) (Q : Gr) (k : Int) (h : GrAt w p m Q) (hb : hasB Q k = true) (hs : ShutQ Q) (hn : Q.length ≤ 900000) :
    Calls Try.prog 15 #[.pointer (some ⟨p, 0, none⟩), .int .u64 k] w fun e w' => ∃ L, Found Q k L L.length ∧ NewNums w (sortZ L) e w' := by
  have cH := gHas w p m Q k h
  rw [hb] at cH
  have hQ := near_len h hs hn
  have hlow : p < w.heap.size ∧ m < w.heap.size ∧ ∀ q ∈ Q, q.2.1 < w.heap.size := ⟨lt_block h.cell, h.outer.lt, fun q hq => (h.inner q hq).lt⟩
  have hmm := @run_makeMap Try.prog
  obtain ⟨w1, h1, hm1, hg1, hs1⟩ := run_put (P := Try.prog) KO64 Try.underlying45 (MapAt.made (mk := Value.int .u64) w) k (.bool true)
  have hB1 : Below w.heap.size w w1 := ((Below.refl _ w).alloc (Nat.le_refl _) _).grown hg1 (by simp) (fun b e => by cases e; exact Nat.le_refl _)
  have hsz1 : w1.heap.size = w.heap.size + 1 := by rw [hs1]; simp
  have hB2 : Below w.heap.size w (w1.alloc (.cells #[.int .u64 k] 31)) := hB1.alloc (by omega) _
  have hI : SearchI w.heap.size p m w.heap.size (w.heap.size + 1) 0 1 Q [k] 0 (w1.alloc (.cells #[.int .u64 k] 31)) := by
    refine ⟨h.kept fun j hj => hB2.block j hj, hm1.kept (heap_alloc_old _ _ (by omega)), Queue.one (by omega) ?_, Nat.le_refl _, hB2.size, hlow⟩
    have := World.alloc_heap_new w1 (.cells #[.int .u64 k] 31)
    rwa [hsz1] at this
  have HI := Lib.hid (And.intro hI hB2)
  have HQ := Lib.hid (And.intro hQ (And.intro hs hn))
  have F0 := Lib.hid (Found.first hb)
  clear h hm1 hg1 hs1 hB1 hI hB2 hlow hQ hs hn
  go_enter Try.func15, Try.ntmps15
  go_wp2_with (go_at_call 25; refine cH.mono ?_; rintro e w' ⟨rfl, hw⟩; obtain rfl : w = w' := hw.symm)
  go_loopg [6] Q.length (fun q s wr => ∃ (L : List Int) (i n g off cap : Nat), q = Q.length - i ∧ L.length = i + n ∧ Found Q k L i ∧ s = .slice (some ⟨g, off, none⟩) n cap ∧ SearchI w.heap.size p m w.heap.size g off cap Q L i wr ∧ Below w.heap.size w wr)
  case atStart => exact ⟨[k], 0, 1, w.heap.size + 1, 0, 1, by simp, rfl, F0.out, rfl, HI.out.1, HI.out.2⟩
  case round =>
    obtain ⟨L, i, n, g, off, cap, rfl, hL, hF, rfl, hI, hB⟩ := hrel
    have HF := Lib.hid hF
    have HS := Lib.hid (And.intro hI hB)
    by_cases hn0 : n = 0
    · subst hn0
      obtain rfl : i = L.length := by omega
      have cK := keysA (some w.heap.size) wr
      have hi' : MapAt (wr.alloc (.cells #[.map (some w.heap.size)] 45)) (Value.int .u64) w.heap.size (seenL L) := hI.seen.kept (heap_alloc_old _ _ hI.seen.lt)
      have hlen : L.length ≤ 1000000 := by have := hF.len; have := HQ.out.2.2; omega
      have cS := sortedKeysA wr.heap.size w.heap.size (seenL L) (wr.alloc (.cells #[.map (some w.heap.size)] 45)) (by simp) (by simp) hi' (by simpa [seenL] using hlen)
      have hnn : (seenL L).map (·.1) = L := by simp [seenL, Function.comp_def]
      have hl2 : (seenL L).length = (sortZ L).length := by simp [seenL, sortZ]
      rw [hnn, hl2] at cS
      have HZ := Lib.hid hI.big
      clear hF hI hB hi' hnn hl2
      go_wp2_with (first
        | (go_at_call 35; refine cK.mono ?_; rintro e w' ⟨rfl, rfl⟩)
        | (go_at_call 34; refine cS.mono ?_; rintro e w2 ⟨v, rfl, hr, hbl⟩; have HR := Lib.hid hr; have HB := Lib.hid hbl; clear hr hbl))
      go_ret
      exact ⟨L, HF.out, v, rfl, own_mono HR.out (by simp; have := HZ.out; omega), (HS.out.2.alloc HZ.out _).trans (HB.out.mono (by simp; have := HZ.out; omega))⟩
    · obtain ⟨n', rfl⟩ : ∃ n', n = n' + 1 := ⟨n - 1, by omega⟩
      have hiL : i < L.length := by omega
      have hcell : wr.cell? ⟨g, off, none⟩ = some (.int .u64 L[i]) := by
        have := hI.q.cell (j := 0) (u := .int .u64 L[i]) (by simp [hiL])
        simpa using this
      have hl1 : (L.drop i).map (Value.int .u64) = .int .u64 L[i] :: (L.drop (i + 1)).map (Value.int .u64) := by rw [List.drop_eq_getElem_cons hiL, List.map_cons]
      have hcap := hI.q.le
      have hmax := hI.q.max
      have hln : (L.drop i).length = n' + 1 := by rw [List.length_drop]; omega
      rw [List.length_map, hln] at hcap
      have hmx : cap ≤ 9223372036854775807 := by simpa [maxLen] using hmax
      have cN := gNear wr p m Q L[i] hI.gr HQ.out.1
      have HX := Lib.hid (nodup_sortZ (l := L))
      clear hmax hln hF hB cH
      by_cases hc1 : cap = 1
      · subst hc1
        obtain rfl : n' = 0 := by omega
        have hd : L.drop (i + 1) = [] := List.drop_eq_nil_of_le (by omega)
        have SI := Lib.hid (show SearchI w.heap.size p m w.heap.size g off 0 Q L (i + 1) wr from ⟨hI.gr, hI.seen, by rw [hd]; exact hI.q.none, hI.low, hI.big, hI.graph⟩)
        clear hI hl1
        go_wp2_with (go_at_call 21; refine cN.mono ?_; rintro e w3 ⟨v, rfl, hr, hbl⟩; obtain ⟨qv, mv, cv, rfl⟩ := own_form hr; obtain rfl : mv = (nearZ Q L[i]).length := own_len hr)
        have hll : (nearZ Q L[i]).length ≤ 9223372036854775807 := own_short hr
        have S3 := Lib.hid (SI.out.kept hbl)
        have B3 := Lib.hid (HS.out.2.trans (hbl.mono HS.out.1.big))
        have R3 := Lib.hid (And.intro (own_mono hr HS.out.1.big) (fun b e => (hr.lt b e).1))
        have HG := Lib.hid (HS.out.1.q.lt)
        obtain ⟨l, hl⟩ : ∃ l, l = nearZ Q L[i] := ⟨_, rfl⟩
        rw [← hl] at R3 hll ⊢
        have HL := Lib.hid hl
        obtain ⟨wo, rfl⟩ : ∃ wo : World, wo = wr := ⟨_, rfl⟩
        clear hr hbl hl
        have HP := Lib.hid (show ∀ j, (addAll L (l.take j)).length ≤ 900000 from fun j => by rw [HL.out]; exact Nat.le_trans (HF.out.part HQ.out.2.1 hiL j) HQ.out.2.2)
        go_loopg [31, 6] l.length (fun q i2 s w4 => ∃ (j n2 g2 off2 cap2 : Nat), q = l.length - j ∧ j ≤ l.length ∧ i2 = .int .i64 j ∧ (addAll L (l.take j)).length = i + 1 + n2 ∧ s = .slice (some ⟨g2, off2, none⟩) n2 cap2 ∧ SearchI w.heap.size p m w.heap.size g2 off2 cap2 Q (addAll L (l.take j)) (i + 1) w4 ∧ Below w.heap.size w w4 ∧
          w4.ownsRow w.heap.size 31 1 (.slice qv l.length cv) l.length (l.map (Value.int .u64)) ∧ ∀ b, (Value.slice qv l.length cv).ownBlock = some b → b ≠ g2)
        case atStart => exact ⟨0, 0, g, off, 0, by simp, by omega, rfl, by simp [addAll]; omega, rfl, by simpa [addAll] using S3.out, B3.out, R3.out.1, fun b e => by have := R3.out.2 b e; have := HG.out; omega⟩
        case round =>
          obtain ⟨j, n2, g2, off2, cap2, rfl, hj, rfl, hlen2, rfl, hI2, hB2, hR2, hap⟩ := hrel
          by_cases hjl : j < l.length
          · obtain ⟨bv, cv', hve, hbv, hbl⟩ := hR2.form (by omega)
            obtain ⟨rfl, -, rfl⟩ := Value.slice.inj hve
            have hcx : wr.cell? ⟨bv, j, none⟩ = some (.int .u64 l[j]) := by
              rw [World.ownsRow.cellAt hR2 j (by omega), List.getElem?_map, List.getElem?_eq_getElem hjl]; rfl
            have hz := run_look (P := Try.prog) KO64 Try.underlying45 hI2.seen (zeroB wr) l[j] false
            rw [getK_seen] at hz
            have htk : l.take (j + 1) = l.take j ++ [l[j]] := by rw [List.take_add_one, List.getElem?_eq_getElem hjl]; rfl
            have hsn := addAll_snoc L (l.take j) l[j]
            rw [← htk] at hsn
            by_cases hx : l[j] ∈ addAll L (l.take j)
            · simp only [hx, if_true] at hz hsn
              simp only [Option.getD_some, Bool.false_eq_true, if_false] at hz
              have NX := Lib.hid (And.intro hlen2 (And.intro hI2 (And.intro hB2 (And.intro hR2 (And.intro hap hsn)))))
              clear hlen2 hI2 hB2 hR2 hap hsn htk hx
              go_wp2_with fail
              go_roundg (l.length - (j + 1))
              case measure => omega
              case rel =>
                obtain ⟨n1, n2', n3, n4, n5, n6⟩ := NX.out
                exact ⟨j + 1, n2, g2, off2, cap2, rfl, by omega, by go_num, by rw [n6]; exact n1, rfl, by rw [n6]; exact n2', n3, n4, n5⟩
            · simp only [hx, if_false] at hz hsn
              simp only [Option.getD_none, Bool.false_eq_true, if_false] at hz
              obtain ⟨w5, g', off', cap', w7, h5, h7, hI7, hB7, hs7, hold, hgg⟩ := hI2.more hx (by omega) (HP.out j) (n := n2) (by omega)
              have hR7 : w7.ownsRow w.heap.size 31 1 (.slice (some ⟨bv, 0, none⟩) l.length cv) l.length (l.map (Value.int .u64)) := own_agree hR2 (fun b e => hold b (hR2.lt b e).2 (hap b e) (fun e2 => own_not_map hR2 hI2.seen (e2 ▸ e)))
              have hap7 : ∀ b, (Value.slice (some ⟨bv, 0, none⟩) l.length cv).ownBlock = some b → b ≠ g' := fun b e => by
                rcases hgg with h1 | h1
                · rw [h1]; exact hap b e
                · have := (hR2.lt b e).2; omega
              have hlen7 : (addAll L (l.take j) ++ [l[j]]).length = i + 1 + (n2 + 1) := by rw [List.length_append, hlen2]; rfl
              have NX := Lib.hid (And.intro hlen7 (And.intro hI7 (And.intro (hB2.trans hB7) (And.intro hR7 (And.intro hap7 hsn)))))
              clear hlen2 hI2 hB2 hR2 hap hsn htk hx hI7 hB7 hs7 hold hgg hR7 hap7 hlen7
              go_wp2_with (refine wpList_append_eq h7 rfl _ _ rfl rfl rfl ?_)
              go_roundg (l.length - (j + 1))
              case measure => omega
              case rel =>
                obtain ⟨n1, n2', n3, n4, n5, n6⟩ := NX.out
                exact ⟨j + 1, n2 + 1, g', off', cap', rfl, by omega, by go_num, by rw [n6]; exact n1, rfl, by rw [n6]; exact n2', n3, n4, n5⟩
          · obtain rfl : j = l.length := by omega
            rw [List.take_length] at hlen2 hI2
            have NX := Lib.hid (And.intro hlen2 (And.intro hI2 hB2))
            clear hlen2 hI2 hB2 hR2 hap
            go_wp2_with fail
            go_roundg (Q.length - (i + 1))
            case measure => have := HF.out.len; omega
            case rel => exact ⟨addAll L l, i + 1, n2, g2, off2, cap2, rfl, NX.out.1, by rw [HL.out]; exact HF.out.next HQ.out.2.1 hiL, rfl, NX.out.2.1, NX.out.2.2⟩
      · have hc2 : ¬ (cap : Int) = 1 := by omega
        have SI := Lib.hid (show SearchI w.heap.size p m w.heap.size g (off + 1) (cap - 1) Q L (i + 1) wr from ⟨hI.gr, hI.seen, by have := hI.q; rw [hl1] at this; exact this.tail, hI.low, hI.big, hI.graph⟩)
        clear hI hl1
        go_wp2_with (go_at_call 21; refine cN.mono ?_; rintro e w3 ⟨v, rfl, hr, hbl⟩; obtain ⟨qv, mv, cv, rfl⟩ := own_form hr; obtain rfl : mv = (nearZ Q L[i]).length := own_len hr)
        have hll : (nearZ Q L[i]).length ≤ 9223372036854775807 := own_short hr
        have S3 := Lib.hid (SI.out.kept hbl)
        have B3 := Lib.hid (HS.out.2.trans (hbl.mono HS.out.1.big))
        have R3 := Lib.hid (And.intro (own_mono hr HS.out.1.big) (fun b e => (hr.lt b e).1))
        have HG := Lib.hid (HS.out.1.q.lt)
        obtain ⟨l, hl⟩ : ∃ l, l = nearZ Q L[i] := ⟨_, rfl⟩
        rw [← hl] at R3 hll ⊢
        have HL := Lib.hid hl
        obtain ⟨wo, rfl⟩ : ∃ wo : World, wo = wr := ⟨_, rfl⟩
        clear hr hbl hl
        have HP := Lib.hid (show ∀ j, (addAll L (l.take j)).length ≤ 900000 from fun j => by rw [HL.out]; exact Nat.le_trans (HF.out.part HQ.out.2.1 hiL j) HQ.out.2.2)
        go_loopg [31, 6] l.length (fun q i2 s w4 => ∃ (j n2 g2 off2 cap2 : Nat), q = l.length - j ∧ j ≤ l.length ∧ i2 = .int .i64 j ∧ (addAll L (l.take j)).length = i + 1 + n2 ∧ s = .slice (some ⟨g2, off2, none⟩) n2 cap2 ∧ SearchI w.heap.size p m w.heap.size g2 off2 cap2 Q (addAll L (l.take j)) (i + 1) w4 ∧ Below w.heap.size w w4 ∧
          w4.ownsRow w.heap.size 31 1 (.slice qv l.length cv) l.length (l.map (Value.int .u64)) ∧ ∀ b, (Value.slice qv l.length cv).ownBlock = some b → b ≠ g2)
        case atStart => exact ⟨0, n', g, (off + 1), (cap - 1), by simp, by omega, rfl, by simp [addAll]; omega, rfl, by simpa [addAll] using S3.out, B3.out, R3.out.1, fun b e => by have := R3.out.2 b e; have := HG.out; omega⟩
        case round =>
          obtain ⟨j, n2, g2, off2, cap2, rfl, hj, rfl, hlen2, rfl, hI2, hB2, hR2, hap⟩ := hrel
          by_cases hjl : j < l.length
          · obtain ⟨bv, cv', hve, hbv, hbl⟩ := hR2.form (by omega)
            obtain ⟨rfl, -, rfl⟩ := Value.slice.inj hve
            have hcx : wr.cell? ⟨bv, j, none⟩ = some (.int .u64 l[j]) := by
              rw [World.ownsRow.cellAt hR2 j (by omega), List.getElem?_map, List.getElem?_eq_getElem hjl]; rfl
            have hz := run_look (P := Try.prog) KO64 Try.underlying45 hI2.seen (zeroB wr) l[j] false
            rw [getK_seen] at hz
            have htk : l.take (j + 1) = l.take j ++ [l[j]] := by rw [List.take_add_one, List.getElem?_eq_getElem hjl]; rfl
            have hsn := addAll_snoc L (l.take j) l[j]
            rw [← htk] at hsn
            by_cases hx : l[j] ∈ addAll L (l.take j)
            · simp only [hx, if_true] at hz hsn
              simp only [Option.getD_some, Bool.false_eq_true, if_false] at hz
              have NX := Lib.hid (And.intro hlen2 (And.intro hI2 (And.intro hB2 (And.intro hR2 (And.intro hap hsn)))))
              clear hlen2 hI2 hB2 hR2 hap hsn htk hx
              go_wp2_with fail
              go_roundg (l.length - (j + 1))
              case measure => omega
              case rel =>
                obtain ⟨n1, n2', n3, n4, n5, n6⟩ := NX.out
                exact ⟨j + 1, n2, g2, off2, cap2, rfl, by omega, by go_num, by rw [n6]; exact n1, rfl, by rw [n6]; exact n2', n3, n4, n5⟩
            · simp only [hx, if_false] at hz hsn
              simp only [Option.getD_none, Bool.false_eq_true, if_false] at hz
              obtain ⟨w5, g', off', cap', w7, h5, h7, hI7, hB7, hs7, hold, hgg⟩ := hI2.more hx (by omega) (HP.out j) (n := n2) (by omega)
              have hR7 : w7.ownsRow w.heap.size 31 1 (.slice (some ⟨bv, 0, none⟩) l.length cv) l.length (l.map (Value.int .u64)) := own_agree hR2 (fun b e => hold b (hR2.lt b e).2 (hap b e) (fun e2 => own_not_map hR2 hI2.seen (e2 ▸ e)))
              have hap7 : ∀ b, (Value.slice (some ⟨bv, 0, none⟩) l.length cv).ownBlock = some b → b ≠ g' := fun b e => by
                rcases hgg with h1 | h1
                · rw [h1]; exact hap b e
                · have := (hR2.lt b e).2; omega
              have hlen7 : (addAll L (l.take j) ++ [l[j]]).length = i + 1 + (n2 + 1) := by rw [List.length_append, hlen2]; rfl
              have NX := Lib.hid (And.intro hlen7 (And.intro hI7 (And.intro (hB2.trans hB7) (And.intro hR7 (And.intro hap7 hsn)))))
              clear hlen2 hI2 hB2 hR2 hap hsn htk hx hI7 hB7 hs7 hold hgg hR7 hap7 hlen7
              go_wp2_with (refine wpList_append_eq h7 rfl _ _ rfl rfl rfl ?_)
              go_roundg (l.length - (j + 1))
              case measure => omega
              case rel =>
                obtain ⟨n1, n2', n3, n4, n5, n6⟩ := NX.out
                exact ⟨j + 1, n2 + 1, g', off', cap', rfl, by omega, by go_num, by rw [n6]; exact n1, rfl, by rw [n6]; exact n2', n3, n4, n5⟩
          · obtain rfl : j = l.length := by omega
            rw [List.take_length] at hlen2 hI2
            have NX := Lib.hid (And.intro hlen2 (And.intro hI2 hB2))
            clear hlen2 hI2 hB2 hR2 hap
            go_wp2_with fail
            go_roundg (Q.length - (i + 1))
            case measure => have := HF.out.len; omega
            case rel => exact ⟨addAll L l, i + 1, n2, g2, off2, cap2, rfl, NX.out.1, by rw [HL.out]; exact HF.out.next HQ.out.2.1 hiL, rfl, NX.out.2.1, NX.out.2.2⟩

end Go.Proofs.Ytdbeekdnehojnaa
