/- graph: Reach. Are two lists of numbers alike (ref). graph's laws: both graphs in memory, side by side. A region that draws its order, its operations behind a name: each step's goal is small. graph's laws: one call on both. graph's laws: the program's graph alone, told by the document's nodes and edges; the document's example. -/
import Derived.Test.YtpjbkaibgajpcaaGreatJ29
import Derived.Test.YtpjbkaibgajpcaaGreatJ01
import Derived.Test.YtpjbkaibgajpcaaGreatJ31
namespace Go.Proofs.YtpjbkaibgajpcaaGreat
open Go.RowKit Go.ChangeMaps
set_option maxRecDepth 20000

theorem near_len {w : World} {p m : Nat} {Q : Gr} (h : GrAt w p m Q) (hs : ShutQ Q) (hn : Q.length ≤ 900000) : ∀ q ∈ Q, q.2.2.length ≤ 1000000 := by
  intro q hq
  obtain ⟨es, c, hi⟩ := h.inner q hq
  have h1 : (q.2.2.map (·.1)).Nodup := by
    have := hi.keys
    simpa [innerL, List.map_map, Function.comp_def] using this
  have := nodup_le h1 (K := Q.map (·.1)) (fun x hx => by
    obtain ⟨e, he, rfl⟩ := List.mem_map.1 hx
    exact hs q hq e he)
  simp only [List.length_map] at this
  omega

set_option maxRecDepth 100000 in
set_option maxHeartbeats 8000000 in
theorem gReach (w : World) (p m : Nat) (Q : Gr) (k : Int) (h : GrAt w p m Q) (hb : hasB Q k = true) (hs : ShutQ Q) (hn : Q.length ≤ 900000) :
    Calls Tryz.prog 51 #[.pointer (some ⟨p, 0, none⟩), .int .u64 k] w fun e w' => ∃ L, Found Q k L L.length ∧ NewNumsG w (sortZ L) e w' := by
  have cH := gHas w p m Q k h
  rw [hb] at cH
  have hQ := near_len h hs hn
  have hlow : p < w.heap.size ∧ m < w.heap.size ∧ ∀ q ∈ Q, q.2.1 < w.heap.size := ⟨lt_block h.cell, h.outer.lt, fun q hq => (h.inner q hq).lt⟩
  have hmm := @run_makeMap Tryz.prog
  obtain ⟨w1, h1, hm1, hg1, hs1⟩ := run_put (P := Tryz.prog) KO64 Tryz.underlying117 (MapAt.made (mk := Value.int .u64) w) k (.bool true)
  have hB1 : Below w.heap.size w w1 := ((Below.refl _ w).alloc (Nat.le_refl _) _).grown hg1 (by simp) (fun b e => by cases e; exact Nat.le_refl _)
  have hsz1 : w1.heap.size = w.heap.size + 1 := by rw [hs1]; simp
  have hB2 : Below w.heap.size w (w1.alloc (.cells #[.int .u64 k] 36)) := hB1.alloc (by omega) _
  have hI : SearchI w.heap.size p m w.heap.size (w.heap.size + 1) 0 1 Q [k] 0 (w1.alloc (.cells #[.int .u64 k] 36)) := by
    refine ⟨h.kept fun j hj => hB2.block j hj, hm1.kept (heap_alloc_old _ _ (by omega)), Queue.one (by omega) ?_, Nat.le_refl _, hB2.size, hlow⟩
    have := World.alloc_heap_new w1 (.cells #[.int .u64 k] 36)
    rwa [hsz1] at this
  have HI := Lib.hid (And.intro hI hB2)
  have HQ := Lib.hid (And.intro hQ (And.intro hs hn))
  have F0 := Lib.hid (Found.first hb)
  clear h hm1 hg1 hs1 hB1 hI hB2 hlow hQ hs hn
  go_enter Tryz.func51, Tryz.ntmps51
  go_wp2_with (go_at_call 80; refine cH.mono ?_; rintro e w' ⟨rfl, hw⟩; obtain rfl : w = w' := hw.symm)
  go_loopg [6] Q.length (fun q s wr => ∃ (L : List Int) (i n g off cap : Nat), q = Q.length - i ∧ L.length = i + n ∧ Found Q k L i ∧ s = .slice (some ⟨g, off, none⟩) n cap ∧ SearchI w.heap.size p m w.heap.size g off cap Q L i wr ∧ Below w.heap.size w wr)
  case atStart => exact ⟨[k], 0, 1, w.heap.size + 1, 0, 1, by simp, rfl, F0.out, rfl, HI.out.1, HI.out.2⟩
  case round =>
    obtain ⟨L, i, n, g, off, cap, rfl, hL, hF, rfl, hI, hB⟩ := hrel
    have HF := Lib.hid hF
    have HS := Lib.hid (And.intro hI hB)
    by_cases hn0 : n = 0
    · subst hn0
      obtain rfl : i = L.length := by omega
      have cK := keysA (some w.heap.size) wr
      have hi' : MapAt (wr.alloc (.cells #[.map (some w.heap.size)] 117)) (Value.int .u64) w.heap.size (seenL L) := hI.seen.kept (heap_alloc_old _ _ hI.seen.lt)
      have hlen : L.length ≤ 1000000 := by have := hF.len; have := HQ.out.2.2; omega
      have cS := sortedKeysA wr.heap.size w.heap.size (seenL L) (wr.alloc (.cells #[.map (some w.heap.size)] 117)) (by simp) (by simp) hi' (by simpa [seenL] using hlen)
      have hnn : (seenL L).map (·.1) = L := by simp [seenL, Function.comp_def]
      have hl2 : (seenL L).length = (sortZ L).length := by simp [seenL, sortZ]
      rw [hnn, hl2] at cS
      have HZ := Lib.hid hI.big
      clear hF hI hB hi' hnn hl2
      go_wp2_with (first
        | (go_at_call 77; refine cK.mono ?_; rintro e w' ⟨rfl, rfl⟩)
        | (go_at_call 73; refine cS.mono ?_; rintro e w2 ⟨v, rfl, hr, hbl⟩; have HR := Lib.hid hr; have HB := Lib.hid hbl; clear hr hbl))
      go_ret
      exact ⟨L, HF.out, v, rfl, own_mono HR.out (by simp; have := HZ.out; omega), (HS.out.2.alloc HZ.out _).trans (HB.out.mono (by simp; have := HZ.out; omega))⟩
    · obtain ⟨n', rfl⟩ : ∃ n', n = n' + 1 := ⟨n - 1, by omega⟩
      have hiL : i < L.length := by omega
      have hcell : wr.cell? ⟨g, off, none⟩ = some (.int .u64 L[i]) := by
        have := hI.q.cell (j := 0) (u := .int .u64 L[i]) (by simp [hiL])
        simpa using this
      have hl1 : (L.drop i).map (Value.int .u64) = .int .u64 L[i] :: (L.drop (i + 1)).map (Value.int .u64) := by rw [List.drop_eq_getElem_cons hiL, List.map_cons]
      have hcap := hI.q.le
      have hmax := hI.q.max
      have hln : (L.drop i).length = n' + 1 := by rw [List.length_drop]; omega
      rw [List.length_map, hln] at hcap
      have hmx : cap ≤ 9223372036854775807 := by simpa [maxLen] using hmax
      have cN := gNear wr p m Q L[i] hI.gr HQ.out.1
      have HX := Lib.hid (nodup_sortZ (l := L))
      clear hmax hln hF hB cH
      by_cases hc1 : cap = 1
      · subst hc1
        obtain rfl : n' = 0 := by omega
        have hd : L.drop (i + 1) = [] := List.drop_eq_nil_of_le (by omega)
        have SI := Lib.hid (show SearchI w.heap.size p m w.heap.size g off 0 Q L (i + 1) wr from ⟨hI.gr, hI.seen, by rw [hd]; exact hI.q.none, hI.low, hI.big, hI.graph⟩)
        clear hI hl1
        go_wp2_with (go_at_call 45; refine cN.mono ?_; rintro e w3 ⟨v, rfl, hr, hbl⟩; obtain ⟨qv, mv, cv, rfl⟩ := own_form hr; obtain rfl : mv = (nearZ Q L[i]).length := own_len hr)
        have hll : (nearZ Q L[i]).length ≤ 9223372036854775807 := own_short hr
        have S3 := Lib.hid (SI.out.kept hbl)
        have B3 := Lib.hid (HS.out.2.trans (hbl.mono HS.out.1.big))
        have R3 := Lib.hid (And.intro (own_mono hr HS.out.1.big) (fun b e => (hr.lt b e).1))
        have HG := Lib.hid (HS.out.1.q.lt)
        obtain ⟨l, hl⟩ : ∃ l, l = nearZ Q L[i] := ⟨_, rfl⟩
        rw [← hl] at R3 hll ⊢
        have HL := Lib.hid hl
        obtain ⟨wo, rfl⟩ : ∃ wo : World, wo = wr := ⟨_, rfl⟩
        clear hr hbl hl
        have HP := Lib.hid (show ∀ j, (addAll L (l.take j)).length ≤ 900000 from fun j => by rw [HL.out]; exact Nat.le_trans (HF.out.part HQ.out.2.1 hiL j) HQ.out.2.2)
        go_loopg [31, 6] l.length (fun q i2 s w4 => ∃ (j n2 g2 off2 cap2 : Nat), q = l.length - j ∧ j ≤ l.length ∧ i2 = .int .i64 j ∧ (addAll L (l.take j)).length = i + 1 + n2 ∧ s = .slice (some ⟨g2, off2, none⟩) n2 cap2 ∧ SearchI w.heap.size p m w.heap.size g2 off2 cap2 Q (addAll L (l.take j)) (i + 1) w4 ∧ Below w.heap.size w w4 ∧
          w4.ownsRow w.heap.size 36 1 (.slice qv l.length cv) l.length (l.map (Value.int .u64)) ∧ ∀ b, (Value.slice qv l.length cv).ownBlock = some b → b ≠ g2)
        case atStart => exact ⟨0, 0, g, off, 0, by simp, by omega, rfl, by simp [addAll]; omega, rfl, by simpa [addAll] using S3.out, B3.out, R3.out.1, fun b e => by have := R3.out.2 b e; have := HG.out; omega⟩
        case round =>
          obtain ⟨j, n2, g2, off2, cap2, rfl, hj, rfl, hlen2, rfl, hI2, hB2, hR2, hap⟩ := hrel
          by_cases hjl : j < l.length
          · obtain ⟨bv, cv', hve, hbv, hbl⟩ := hR2.form (by omega)
            obtain ⟨rfl, -, rfl⟩ := Value.slice.inj hve
            have hcx : wr.cell? ⟨bv, j, none⟩ = some (.int .u64 l[j]) := by
              rw [World.ownsRow.cellAt hR2 j (by omega), List.getElem?_map, List.getElem?_eq_getElem hjl]; rfl
            have hz := run_look (P := Tryz.prog) KO64 Tryz.underlying117 hI2.seen (zeroB wr) l[j] false
            rw [getK_seen] at hz
            have htk : l.take (j + 1) = l.take j ++ [l[j]] := by rw [List.take_add_one, List.getElem?_eq_getElem hjl]; rfl
            have hsn := addAll_snoc L (l.take j) l[j]
            rw [← htk] at hsn
            by_cases hx : l[j] ∈ addAll L (l.take j)
            · simp only [hx, if_true] at hz hsn
              simp only [Option.getD_some, Bool.false_eq_true, if_false] at hz
              have NX := Lib.hid (And.intro hlen2 (And.intro hI2 (And.intro hB2 (And.intro hR2 (And.intro hap hsn)))))
              clear hlen2 hI2 hB2 hR2 hap hsn htk hx
              go_wp2_with fail
              go_roundg (l.length - (j + 1))
              case measure => omega
              case rel =>
                obtain ⟨n1, n2', n3, n4, n5, n6⟩ := NX.out
                exact ⟨j + 1, n2, g2, off2, cap2, rfl, by omega, by go_num, by rw [n6]; exact n1, rfl, by rw [n6]; exact n2', n3, n4, n5⟩
            · simp only [hx, if_false] at hz hsn
              simp only [Option.getD_none, Bool.false_eq_true, if_false] at hz
              obtain ⟨w5, g', off', cap', w7, h5, h7, hI7, hB7, hs7, hold, hgg⟩ := hI2.more hx (by omega) (HP.out j) (n := n2) (by omega)
              have hR7 : w7.ownsRow w.heap.size 36 1 (.slice (some ⟨bv, 0, none⟩) l.length cv) l.length (l.map (Value.int .u64)) := own_agree hR2 (fun b e => hold b (hR2.lt b e).2 (hap b e) (fun e2 => own_not_map hR2 hI2.seen (e2 ▸ e)))
              have hap7 : ∀ b, (Value.slice (some ⟨bv, 0, none⟩) l.length cv).ownBlock = some b → b ≠ g' := fun b e => by
                rcases hgg with h1 | h1
                · rw [h1]; exact hap b e
                · have := (hR2.lt b e).2; omega
              have hlen7 : (addAll L (l.take j) ++ [l[j]]).length = i + 1 + (n2 + 1) := by rw [List.length_append, hlen2]; rfl
              have NX := Lib.hid (And.intro hlen7 (And.intro hI7 (And.intro (hB2.trans hB7) (And.intro hR7 (And.intro hap7 hsn)))))
              clear hlen2 hI2 hB2 hR2 hap hsn htk hx hI7 hB7 hs7 hold hgg hR7 hap7 hlen7
              go_wp2_with (refine wpList_append_eq h7 rfl _ _ rfl rfl rfl ?_)
              go_roundg (l.length - (j + 1))
              case measure => omega
              case rel =>
                obtain ⟨n1, n2', n3, n4, n5, n6⟩ := NX.out
                exact ⟨j + 1, n2 + 1, g', off', cap', rfl, by omega, by go_num, by rw [n6]; exact n1, rfl, by rw [n6]; exact n2', n3, n4, n5⟩
          · obtain rfl : j = l.length := by omega
            rw [List.take_length] at hlen2 hI2
            have NX := Lib.hid (And.intro hlen2 (And.intro hI2 hB2))
            clear hlen2 hI2 hB2 hR2 hap
            go_wp2_with fail
            go_roundg (Q.length - (i + 1))
            case measure => have := HF.out.len; omega
            case rel => exact ⟨addAll L l, i + 1, n2, g2, off2, cap2, rfl, NX.out.1, by rw [HL.out]; exact HF.out.next HQ.out.2.1 hiL, rfl, NX.out.2.1, NX.out.2.2⟩
      · have hc2 : ¬ (cap : Int) = 1 := by omega
        have SI := Lib.hid (show SearchI w.heap.size p m w.heap.size g (off + 1) (cap - 1) Q L (i + 1) wr from ⟨hI.gr, hI.seen, by have := hI.q; rw [hl1] at this; exact this.tail, hI.low, hI.big, hI.graph⟩)
        clear hI hl1
        go_wp2_with (go_at_call 45; refine cN.mono ?_; rintro e w3 ⟨v, rfl, hr, hbl⟩; obtain ⟨qv, mv, cv, rfl⟩ := own_form hr; obtain rfl : mv = (nearZ Q L[i]).length := own_len hr)
        have hll : (nearZ Q L[i]).length ≤ 9223372036854775807 := own_short hr
        have S3 := Lib.hid (SI.out.kept hbl)
        have B3 := Lib.hid (HS.out.2.trans (hbl.mono HS.out.1.big))
        have R3 := Lib.hid (And.intro (own_mono hr HS.out.1.big) (fun b e => (hr.lt b e).1))
        have HG := Lib.hid (HS.out.1.q.lt)
        obtain ⟨l, hl⟩ : ∃ l, l = nearZ Q L[i] := ⟨_, rfl⟩
        rw [← hl] at R3 hll ⊢
        have HL := Lib.hid hl
        obtain ⟨wo, rfl⟩ : ∃ wo : World, wo = wr := ⟨_, rfl⟩
        clear hr hbl hl
        have HP := Lib.hid (show ∀ j, (addAll L (l.take j)).length ≤ 900000 from fun j => by rw [HL.out]; exact Nat.le_trans (HF.out.part HQ.out.2.1 hiL j) HQ.out.2.2)
        go_loopg [31, 6] l.length (fun q i2 s w4 => ∃ (j n2 g2 off2 cap2 : Nat), q = l.length - j ∧ j ≤ l.length ∧ i2 = .int .i64 j ∧ (addAll L (l.take j)).length = i + 1 + n2 ∧ s = .slice (some ⟨g2, off2, none⟩) n2 cap2 ∧ SearchI w.heap.size p m w.heap.size g2 off2 cap2 Q (addAll L (l.take j)) (i + 1) w4 ∧ Below w.heap.size w w4 ∧
          w4.ownsRow w.heap.size 36 1 (.slice qv l.length cv) l.length (l.map (Value.int .u64)) ∧ ∀ b, (Value.slice qv l.length cv).ownBlock = some b → b ≠ g2)
        case atStart => exact ⟨0, n', g, (off + 1), (cap - 1), by simp, by omega, rfl, by simp [addAll]; omega, rfl, by simpa [addAll] using S3.out, B3.out, R3.out.1, fun b e => by have := R3.out.2 b e; have := HG.out; omega⟩
        case round =>
          obtain ⟨j, n2, g2, off2, cap2, rfl, hj, rfl, hlen2, rfl, hI2, hB2, hR2, hap⟩ := hrel
          by_cases hjl : j < l.length
          · obtain ⟨bv, cv', hve, hbv, hbl⟩ := hR2.form (by omega)
            obtain ⟨rfl, -, rfl⟩ := Value.slice.inj hve
            have hcx : wr.cell? ⟨bv, j, none⟩ = some (.int .u64 l[j]) := by
              rw [World.ownsRow.cellAt hR2 j (by omega), List.getElem?_map, List.getElem?_eq_getElem hjl]; rfl
            have hz := run_look (P := Tryz.prog) KO64 Tryz.underlying117 hI2.seen (zeroB wr) l[j] false
            rw [getK_seen] at hz
            have htk : l.take (j + 1) = l.take j ++ [l[j]] := by rw [List.take_add_one, List.getElem?_eq_getElem hjl]; rfl
            have hsn := addAll_snoc L (l.take j) l[j]
            rw [← htk] at hsn
            by_cases hx : l[j] ∈ addAll L (l.take j)
            · simp only [hx, if_true] at hz hsn
              simp only [Option.getD_some, Bool.false_eq_true, if_false] at hz
              have NX := Lib.hid (And.intro hlen2 (And.intro hI2 (And.intro hB2 (And.intro hR2 (And.intro hap hsn)))))
              clear hlen2 hI2 hB2 hR2 hap hsn htk hx
              go_wp2_with fail
              go_roundg (l.length - (j + 1))
              case measure => omega
              case rel =>
                obtain ⟨n1, n2', n3, n4, n5, n6⟩ := NX.out
                exact ⟨j + 1, n2, g2, off2, cap2, rfl, by omega, by go_num, by rw [n6]; exact n1, rfl, by rw [n6]; exact n2', n3, n4, n5⟩
            · simp only [hx, if_false] at hz hsn
              simp only [Option.getD_none, Bool.false_eq_true, if_false] at hz
              obtain ⟨w5, g', off', cap', w7, h5, h7, hI7, hB7, hs7, hold, hgg⟩ := hI2.more hx (by omega) (HP.out j) (n := n2) (by omega)
              have hR7 : w7.ownsRow w.heap.size 36 1 (.slice (some ⟨bv, 0, none⟩) l.length cv) l.length (l.map (Value.int .u64)) := own_agree hR2 (fun b e => hold b (hR2.lt b e).2 (hap b e) (fun e2 => own_not_map hR2 hI2.seen (e2 ▸ e)))
              have hap7 : ∀ b, (Value.slice (some ⟨bv, 0, none⟩) l.length cv).ownBlock = some b → b ≠ g' := fun b e => by
                rcases hgg with h1 | h1
                · rw [h1]; exact hap b e
                · have := (hR2.lt b e).2; omega
              have hlen7 : (addAll L (l.take j) ++ [l[j]]).length = i + 1 + (n2 + 1) := by rw [List.length_append, hlen2]; rfl
              have NX := Lib.hid (And.intro hlen7 (And.intro hI7 (And.intro (hB2.trans hB7) (And.intro hR7 (And.intro hap7 hsn)))))
              clear hlen2 hI2 hB2 hR2 hap hsn htk hx hI7 hB7 hs7 hold hgg hR7 hap7 hlen7
              go_wp2_with (refine wpList_append_eq h7 rfl _ _ rfl rfl rfl ?_)
              go_roundg (l.length - (j + 1))
              case measure => omega
              case rel =>
                obtain ⟨n1, n2', n3, n4, n5, n6⟩ := NX.out
                exact ⟨j + 1, n2 + 1, g', off', cap', rfl, by omega, by go_num, by rw [n6]; exact n1, rfl, by rw [n6]; exact n2', n3, n4, n5⟩
          · obtain rfl : j = l.length := by omega
            rw [List.take_length] at hlen2 hI2
            have NX := Lib.hid (And.intro hlen2 (And.intro hI2 hB2))
            clear hlen2 hI2 hB2 hR2 hap
            go_wp2_with fail
            go_roundg (Q.length - (i + 1))
            case measure => have := HF.out.len; omega
            case rel => exact ⟨addAll L l, i + 1, n2, g2, off2, cap2, rfl, NX.out.1, by rw [HL.out]; exact HF.out.next HQ.out.2.1 hiL, rfl, NX.out.2.1, NX.out.2.2⟩

end Go.Proofs.YtpjbkaibgajpcaaGreat

namespace Go.Proofs.YtpjbkaibgajpcaaGreat
open Go.RowKit
set_option maxRecDepth 20000


theorem sameNums (xs ys : List Int) (v u : Value) (w : World) (h : Nums w .u64 v xs) (g : Nums w .u64 u ys) :
    Calls Tryz.prog 27 #[v, u] w fun e w' => e = .returned (.bool (decide (xs = ys))) ∧ Drawn w w' := by
  obtain ⟨p, cap, rfl, hcap, hbig, -, hc⟩ := h.slice
  have hl : xs.length ≤ 9223372036854775807 := by omega
  clear hcap hbig
  obtain ⟨q, cap', rfl, hcap', hbig', -, hc'⟩ := g.slice
  have hl' : ys.length ≤ 9223372036854775807 := by omega
  clear hcap' hbig'
  have H := Lib.hid h
  have G := Lib.hid g
  clear h g hc hc'
  by_cases h3 : xs.length = ys.length
  · have h4 : ((xs.length : Int) != ys.length) = false := by simp [h3]
    have H3 := Lib.hid h3
    clear h3
    go_enter Tryz.func27, Tryz.ntmps27
    go_wp2
    go_loopw [5, 13] (fun _ i wr => ∃ k : Nat, k ≤ xs.length ∧ i = .int .i64 k ∧ xs.take k = ys.take k ∧ Drawn w wr) (fun _ i _ => xs.length - (intOf i).toNat)
    case atStart => exact ⟨0, by omega, rfl, rfl, Drawn.refl _⟩
    case round =>
      obtain ⟨k, hk, rfl, hall, hb⟩ := hrel
      have A := Lib.hid (And.intro hall hb)
      clear hall hb
      by_cases hlt : k < xs.length
      · have hlt' : k < ys.length := by have := H3.out; omega
        obtain ⟨b, off, rfl, hcell⟩ := (H.out.below A.out.2.below).elem hlt
        obtain ⟨b', off', rfl, hcell'⟩ := (G.out.below A.out.2.below).elem hlt'
        have hl8 : ys.length ≤ 9223372036854775807 := by omega
        by_cases hx : xs[k] = ys[k]
        · have hne : (xs[k] != ys[k]) = false := by simp [hx]
          have E := Lib.hid hx
          clear hx
          go_wp2
          go_quiet (fail)
          go_wp2
          go_roundw
          case rel => exact ⟨k + 1, by omega, by go_num, by rw [List.take_succ_eq_append_getElem hlt, List.take_succ_eq_append_getElem hlt', A.out.1, E.out], A.out.2.drewN _⟩
          case measure => simp [intOf]; omega
        · have hne : (xs[k] != ys[k]) = true := by simp [hx]
          have E := Lib.hid hx
          clear hx
          go_wp2
          go_quiet (fail)
          go_wp2
          go_ret
          exact ⟨ret_bool (by simp; intro e; subst e; exact E.out rfl), A.out.2.drewN _⟩
      · go_wp2
        go_ret
        have h3 := H3.out
        have h4 := A.out.1
        rw [List.take_of_length_le (by omega), List.take_of_length_le (by omega)] at h4
        exact ⟨ret_bool (by simp [h4]), A.out.2⟩
  · have h4 : ((xs.length : Int) != ys.length) = true := by simp; omega
    go_enter Tryz.func27, Tryz.ntmps27
    go_wp2
    go_ret
    exact ⟨ret_bool (by simp; intro e; exact h3 (by rw [e])), Drawn.refl _⟩

end Go.Proofs.YtpjbkaibgajpcaaGreat

namespace Go.Proofs.YtpjbkaibgajpcaaGreat
open Go.RowKit Go.ChangeMaps
set_option maxRecDepth 20000

def IsMap (w : World) (j : Nat) : Prop := ∃ es c, w.heap[j]? = some (.map es c)

theorem MapAt.isMap {α : Type} {mk : α → Value} {w : World} {b : Nat} {L : List (α × Value)} (h : MapAt w mk b L) : IsMap w b := by
  obtain ⟨es, c, hi⟩ := h
  exact ⟨es, c, hi.obj⟩

theorem IsMap.no {w : World} {j : Nat} (h : IsMap w j) {T : TypeId} (g : OfType w T j) : False := by
  obtain ⟨es, c, h⟩ := h
  obtain ⟨cs, fr, g⟩ := g
  rw [h] at g
  cases g

def Turn (w : World) (B j : Nat) : Prop := B ≤ j ∧ (IsMap w j ∨ OfType w 96 j ∨ OfType w 144 j)

theorem Mod.box {w w' : World} {B b T : Nat} {cs : Array Value} {fr : Nat × Nat} (hm : Mod (Turn w B) w w') (hb : w.heap[b]? = some (.cells cs T fr)) (h1 : T ≠ 96) (h2 : T ≠ 144) : w'.heap[b]? = some (.cells cs T fr) := by
  refine (hm.block b (lt_block hb) fun ⟨_, ht⟩ => ?_).trans hb
  have h : OfType w T b := ⟨_, _, hb⟩
  rcases ht with ht | ht | ht
  · exact ht.no h
  · exact h1 (h.ne ht)
  · exact h2 (h.ne ht)

theorem Turn.low {w w' : World} {B : Nat} (hm : Mod (Turn w B) w w') (hB : B ≤ w.heap.size) : Below B w w' := hm.below hB fun _ h => h.1

structure GS (B p m c : Nat) (Q : Gr) (N : List Int) (E : Eg) (w : World) : Prop where
  g : GrAt w p m Q
  d : ∃ vn ve, DGr w B c N E vn ve
  rel : Rel Q N E
  low : B ≤ p ∧ B ≤ m ∧ ∀ q ∈ Q, B ≤ q.2.1
  big : B ≤ w.heap.size

theorem GS.below {B p m c : Nat} {Q : Gr} {N : List Int} {E : Eg} {w w' : World} (h : GS B p m c Q N E w) (hb : Below w.heap.size w w') : GS B p m c Q N E w' := by
  obtain ⟨vn, ve, hd⟩ := h.d
  exact ⟨h.g.kept fun k hk => hb.block k hk, ⟨vn, ve, hd.below hb⟩, h.rel, h.low, Nat.le_trans h.big hb.size⟩

theorem GS.shut {B p m c : Nat} {Q : Gr} {N : List Int} {E : Eg} {w : World} (h : GS B p m c Q N E w) : ShutQ Q := h.rel.shut h.g.keys

theorem GS.len {B p m c : Nat} {Q : Gr} {N : List Int} {E : Eg} {w : World} (h : GS B p m c Q N E w) : Q.length ≤ N.length := by
  have := nodup_le h.g.keys fun x hx => (h.rel.keys x).1 hx
  simpa using this

theorem DGr.maps {w w' : World} {B c : Nat} {N : List Int} {E : Eg} {vn ve : Value} (h : DGr w B c N E vn ve) {F : Nat → Prop} (hm : Mod F w w') (hF : ∀ j, F j → IsMap w j) : DGr w' B c N E vn ve :=
  h.kept hm (fun j _ ht hj => (hF j hj).no ht) (fun j _ ht hj => (hF j hj).no ht) (fun j _ ht hj => (hF j hj).no ht)

theorem GrAt.doc {w w' : World} {p m B : Nat} {Q : Gr} (h : GrAt w p m Q) {F : Nat → Prop} (hm : Mod F w w') (hF : ∀ j, F j → DocM w B j) : GrAt w' p m Q := by
  have hmap : ∀ j, IsMap w j → w'.heap[j]? = w.heap[j]? := fun j hj => by
    obtain ⟨es, c, h1⟩ := id hj
    refine hm.block j (lt_block h1) fun hf => ?_
    rcases (hF j hf).2 with ht | ht <;> exact hj.no ht
  refine ⟨(hm.block p (lt_block h.cell) fun hf => ?_).trans h.cell, h.outer.kept (hmap m h.outer.isMap), fun q hq => (h.inner q hq).kept (hmap _ (h.inner q hq).isMap), h.apart⟩
  have hp : OfType w 125 p := ⟨_, _, h.cell⟩
  rcases (hF p hf).2 with ht | ht
  · exact absurd (hp.ne ht) (by decide)
  · exact absurd (hp.ne ht) (by decide)

theorem GrAt.blocks_map {w : World} {p m : Nat} {Q : Gr} (h : GrAt w p m Q) : ∀ j, BlocksOf Q j → IsMap w j := fun _j ⟨q, hq, e⟩ => e ▸ (h.inner q hq).isMap

theorem GS.after {B p m c : Nat} {Q Q' : Gr} {N : List Int} {E E' : Eg} {w w' w'' : World} {vn ve v : Value} (h : GS B p m c Q N E w) (hn : SameN Q Q') (hr : Rel Q' N E') (hg : GrAt w' p m Q') (hm : Mod (BlocksOf Q) w w')
    (hd : DGr w B c N E vn ve → DGr w' B c N E vn ve → DGr w'' B c N E' vn v ∧ Mod (DocM w' B) w' w'') (h0 : DGr w B c N E vn ve) : GS B p m c Q' N E' w'' ∧ Mod (Turn w B) w w'' := by
  have hmap := h.g.blocks_map
  have h1 := h0.maps hm hmap
  obtain ⟨h2, m2⟩ := hd h0 h1
  have hlow : ∀ q ∈ Q', B ≤ q.2.1 := fun q hq => by
    have : q.2.1 ∈ Q'.map (fun q => q.2.1) := List.mem_map_of_mem (f := fun q => q.2.1) hq
    rw [hn.1, List.mem_map] at this
    obtain ⟨r, hr, e⟩ := this
    rw [← e]; exact h.low.2.2 r hr
  refine ⟨⟨hg.doc m2 fun _ => id, ⟨vn, v, h2⟩, hr, ⟨h.low.1, h.low.2.1, hlow⟩, Nat.le_trans h.big (Nat.le_trans hm.size m2.size)⟩, ?_⟩
  have m1 : Mod (Turn w B) w w' := hm.mono fun j hj hf => ⟨by obtain ⟨q, hq, e⟩ := hf; rw [e]; exact h.low.2.2 q hq, .inl (hmap j hf)⟩
  refine m1.trans m2 fun j hj hf => ?_
  by_cases hF : BlocksOf Q j
  · exact ⟨by obtain ⟨q, hq, e⟩ := hF; rw [e]; exact h.low.2.2 q hq, .inl (hmap j hF)⟩
  · have hb := hm.block j hj hF
    refine ⟨hf.1, .inr ?_⟩
    rcases hf.2 with ⟨cs, fr, e⟩ | ⟨cs, fr, e⟩
    · exact .inl ⟨cs, fr, by rw [← hb]; exact e⟩
    · exact .inr ⟨cs, fr, by rw [← hb]; exact e⟩


theorem GS.bind {B p m c : Nat} {Q : Gr} {N : List Int} {E : Eg} {w : World} (h : GS B p m c Q N E w) (hl : E.length ≤ 900000) (x y : Int) :
    Calls Tryz.prog 60 #[.pointer (some ⟨p, 0, none⟩), .int .u64 x, .int .u64 y] w fun e w1 =>
      e = .returned (.int .i64 (bindD N E x y).1) ∧ Mod (Turn w B) w w1 ∧ Calls Tryz.prog 65 #[.pointer (some ⟨c, 0, none⟩), .int .u64 x, .int .u64 y] w1 fun e w2 =>
        e = .returned (.int .i64 (bindD N E x y).1) ∧ (∃ Q', GS B p m c Q' N (bindD N E x y).2 w2 ∧ SameN Q Q') ∧ Mod (Turn w B) w w2 := by
  refine (gBind w p m Q x y h.g).mono ?_
  rintro e w1 ⟨rfl, hg, hm⟩
  obtain ⟨h1, h2, h3⟩ := h.rel.bind x y
  obtain ⟨vn, ve, hd⟩ := h.d
  refine ⟨by rw [h1], hm.mono fun j _ hf => ⟨by obtain ⟨q, hq, e⟩ := hf; rw [e]; exact h.low.2.2 q hq, .inl (h.g.blocks_map j hf)⟩, ?_⟩
  have hd1 := hd.maps hm h.g.blocks_map
  refine (dBind w1 B c N E vn ve x y hd1 (Nat.le_trans h.big hm.size) hl).mono ?_
  rintro e w2 ⟨rfl, v, hd2, hm2⟩
  have := h.after h3 h2 hg hm (fun _ _ => ⟨hd2, hm2⟩) hd
  exact ⟨rfl, ⟨_, this.1, h3⟩, this.2⟩

theorem GS.link {B p m c : Nat} {Q : Gr} {N : List Int} {E : Eg} {w : World} (h : GS B p m c Q N E w) (hl : E.length ≤ 900000) (x y : Int) :
    Calls Tryz.prog 61 #[.pointer (some ⟨p, 0, none⟩), .int .u64 x, .int .u64 y] w fun e w1 =>
      e = .returned (.int .i64 (linkD N E x y).1) ∧ Mod (Turn w B) w w1 ∧ Calls Tryz.prog 66 #[.pointer (some ⟨c, 0, none⟩), .int .u64 x, .int .u64 y] w1 fun e w2 =>
        e = .returned (.int .i64 (linkD N E x y).1) ∧ (∃ Q', GS B p m c Q' N (linkD N E x y).2 w2 ∧ SameN Q Q') ∧ Mod (Turn w B) w w2 := by
  refine (gLink w p m Q x y h.g).mono ?_
  rintro e w1 ⟨rfl, hg, hm⟩
  obtain ⟨h1, h2, h3⟩ := h.rel.link x y
  obtain ⟨vn, ve, hd⟩ := h.d
  refine ⟨by rw [h1], hm.mono fun j _ hf => ⟨by obtain ⟨q, hq, e⟩ := hf; rw [e]; exact h.low.2.2 q hq, .inl (h.g.blocks_map j hf)⟩, ?_⟩
  have hd1 := hd.maps hm h.g.blocks_map
  refine (dLink w1 B c N E vn ve x y hd1 (Nat.le_trans h.big hm.size) hl).mono ?_
  rintro e w2 ⟨rfl, v, hd2, hm2⟩
  have := h.after h3 h2 hg hm (fun _ _ => ⟨hd2, hm2⟩) hd
  exact ⟨rfl, ⟨_, this.1, h3⟩, this.2⟩

theorem GS.cut {B p m c : Nat} {Q : Gr} {N : List Int} {E : Eg} {w : World} (h : GS B p m c Q N E w) (hl : E.length ≤ 900000) (x y : Int) :
    Calls Tryz.prog 87 #[.pointer (some ⟨p, 0, none⟩), .int .u64 x, .int .u64 y] w fun e w1 =>
      e = .returned (.int .i64 (cutD N E x y).1) ∧ Mod (Turn w B) w w1 ∧ Calls Tryz.prog 67 #[.pointer (some ⟨c, 0, none⟩), .int .u64 x, .int .u64 y] w1 fun e w2 =>
        e = .returned (.int .i64 (cutD N E x y).1) ∧ (∃ Q', GS B p m c Q' N (cutD N E x y).2 w2 ∧ SameN Q Q') ∧ Mod (Turn w B) w w2 := by
  refine (gCut w p m Q x y h.g).mono ?_
  rintro e w1 ⟨rfl, hg, hm⟩
  obtain ⟨h1, h2, h3⟩ := h.rel.cut x y
  obtain ⟨vn, ve, hd⟩ := h.d
  refine ⟨by rw [h1], hm.mono fun j _ hf => ⟨by obtain ⟨q, hq, e⟩ := hf; rw [e]; exact h.low.2.2 q hq, .inl (h.g.blocks_map j hf)⟩, ?_⟩
  have hd1 := hd.maps hm h.g.blocks_map
  refine (dCut w1 B c N E vn ve x y hd1 (Nat.le_trans h.big hm.size) hl).mono ?_
  rintro e w2 ⟨rfl, v, hd2, hm2⟩
  have := h.after h3 h2 hg hm (fun _ _ => ⟨hd2, hm2⟩) hd
  exact ⟨rfl, ⟨_, this.1, h3⟩, this.2⟩

theorem GS.add {B p m c : Nat} {Q : Gr} {N : List Int} {E : Eg} {w : World} (h : GS B p m c Q N E w) (hl : N.length ≤ 900000) (x : Int) :
    Calls Tryz.prog 59 #[.pointer (some ⟨p, 0, none⟩), .int .u64 x] w fun e w1 =>
      e = .returned (.int .i64 (if x ∈ N then 7 else 0)) ∧ Mod (Turn w B) w w1 ∧ Calls Tryz.prog 64 #[.pointer (some ⟨c, 0, none⟩), .int .u64 x] w1 fun e w2 =>
        e = .returned (.int .i64 (if x ∈ N then 7 else 0)) ∧ (∃ Q', GS B p m c Q' (if x ∈ N then N else putZ N x) E w2) ∧ Mod (Turn w B) w w2 := by
  refine (gAdd w p m Q x h.g).mono ?_
  obtain ⟨vn, ve, hd⟩ := h.d
  rintro e w1 (⟨hh, rfl, rfl⟩ | ⟨hh, rfl, hg, hm⟩)
  · have hx : x ∈ N := (h.rel.keys x).1 (hasB_iff.1 hh)
    simp only [hx, if_true]
    refine ⟨trivial, Mod.refl _ _, ?_⟩
    refine (dAdd w1 B c N E vn ve x hd hl h.big).mono ?_
    rintro e w2 (⟨-, rfl, rfl⟩ | ⟨hn, -⟩)
    · exact ⟨rfl, ⟨Q, h⟩, Mod.refl _ _⟩
    · exact absurd hx hn
  · have hx : x ∉ N := fun hx => by rw [hasB_iff.2 ((h.rel.keys x).2 hx)] at hh; cases hh
    simp only [hx, if_false]
    have hmap : ∀ j, j = m → IsMap w j := fun j e => e ▸ h.g.outer.isMap
    have hd1 := hd.maps hm hmap
    have hB1 := Nat.le_trans h.big hm.size
    refine ⟨trivial, hm.mono fun j _ e => ⟨e ▸ h.low.2.1, .inl (hmap j e)⟩, ?_⟩
    refine (dAdd w1 B c N E vn ve x hd1 hl hB1).mono ?_
    rintro e w2 (⟨hn, -⟩ | ⟨-, rfl, v, hd2, hm2⟩)
    · exact absurd hn hx
    · have hg2 := hg.doc (B := B) hm2 fun j e => ⟨e ▸ hd.low, .inl (e ▸ ⟨_, _, hd1.cell⟩)⟩
      refine ⟨rfl, ⟨_, ⟨hg2, ⟨v, ve, hd2⟩, h.rel.add hx _, ⟨h.low.1, h.low.2.1, fun q hq => ?_⟩, Nat.le_trans hB1 hm2.size⟩⟩, ?_⟩
      · rcases List.mem_append.1 hq with hq | hq
        · exact h.low.2.2 q hq
        · rw [List.mem_singleton.1 hq]; exact h.big
      · have m1 : Mod (Turn w B) w w1 := hm.mono fun j hj e => ⟨e ▸ h.low.2.1, .inl (hmap j e)⟩
        exact m1.trans hm2 fun j hj e => by
          subst e
          exact ⟨hd.low, .inr (.inl ⟨_, _, hd.cell⟩)⟩

end Go.Proofs.YtpjbkaibgajpcaaGreat

namespace Go.Proofs.YtpjbkaibgajpcaaGreat
open Go.RowKit
set_option maxRecDepth 20000

section
variable {P : Program} {ops O : Array Oper} {Q : Exit → Act → World → Prop} {md : Region.Mode} {S : World → Prop}

structure OpsAre (O ops : Array Oper) : Prop where
  eq : O = ops

theorem tkNH (i : Nat) {oi : Oper} {fuel : Nat} {listed : Array Bool} {a : Act} {w : World} (hO : OpsAre O ops) (hS : S w) (hi : ops.toList[i]? = some oi) (hQ : ∀ c a w, Q (.panic c) (a.put oi.dst undef) w → Q (.panic c) a w)
    (hc : canTake md ops listed i = true) (hw : Region.wanted oi (yielded ops a.tmps) = false)
    (h : wpAnyH P md O Q S fuel (listed.setIfInBounds i true) (a.put oi.dst undef) w) : wpAnyH P md O Q S (fuel + 1) listed a w := by
  obtain ⟨rfl⟩ := hO
  exact tkN i hS hi hQ hc hw h

theorem kNH (i : Nat) {oi : Oper} {fuel : Nat} {listed : Array Bool} {a : Act} {w : World} (hO : OpsAre O ops) (hS : S w) (h : wpAnyH P md O Q S fuel (listed.setIfInBounds i true) (a.put oi.dst undef) w)
    (hi : ops.toList[i]? = some oi := by exact rfl) (hQ : ∀ c a w, Q (.panic c) (a.put oi.dst undef) w → Q (.panic c) a w := by exact fun _ _ _ h => h) (hc : canTake md ops listed i = true := by decide +kernel) (hw : Region.wanted oi (yielded ops a.tmps) = false := by rfl) : wpAnyH P md O Q S (fuel + 1) listed a w :=
  tkNH i hO hS hi hQ hc hw h

theorem tkYH (i : Nat) {oi : Oper} {v : Value} {fuel : Nat} {listed : Array Bool} {a : Act} {w : World} (hO : OpsAre O ops) (hS : S w) (hi : ops.toList[i]? = some oi) (hQ : ∀ c a w, Q (.panic c) (a.put oi.dst v) w → Q (.panic c) a w)
    (hc : canTake md ops listed i = true) (hw : Region.wanted oi (yielded ops a.tmps) = true) (hy : ∀ w, S w → (execOp a.eval oi).run P w = .ok (.value v) w)
    (h : wpAnyH P md O Q S fuel (listed.setIfInBounds i true) (a.put oi.dst v) w) : wpAnyH P md O Q S (fuel + 1) listed a w := by
  obtain ⟨rfl⟩ := hO
  exact tkY i hS hi hQ hc hw hy h

theorem kYH (i : Nat) {oi : Oper} {v : Value} {fuel : Nat} {listed : Array Bool} {a : Act} {w : World} (hO : OpsAre O ops) (hS : S w) (h : wpAnyH P md O Q S fuel (listed.setIfInBounds i true) (a.put oi.dst v) w)
    (hi : ops.toList[i]? = some oi := by exact rfl) (hQ : ∀ c a w, Q (.panic c) (a.put oi.dst v) w → Q (.panic c) a w := by exact fun _ _ _ h => h) (hc : canTake md ops listed i = true := by decide +kernel) (hw : Region.wanted oi (yielded ops a.tmps) = true := by rfl) (hy : ∀ w, S w → (execOp a.eval oi).run P w = .ok (.value v) w := by intro w hS; (try dsimp only at hS); go_simp; try with_reducible rfl) : wpAnyH P md O Q S (fuel + 1) listed a w :=
  tkYH i hO hS hi hQ hc hw hy h

theorem spkH (i : Nat) {oi : Oper} {fuel : Nat} {listed : Array Bool} {a : Act} {w : World} (hO : OpsAre O ops) (hi : ops.toList[i]? = some oi)
    (hr : Region.ready md ops listed = [i]) (hw : Region.wanted oi (yielded ops a.tmps) = true)
    (h : ∀ K' : Act → World → Prop, Shut (∀ a w, S w → (S w → wpAnyH P md O Q S fuel (listed.setIfInBounds i true) a w) → K' a w) → oi.wp P a w K' Q) : wpAnyH P md O Q S (fuel + 1) listed a w := by
  obtain ⟨rfl⟩ := hO
  exact spk i hi hr hw h

theorem doneH {fuel : Nat} {listed : Array Bool} {a : Act} {w : World} (hO : OpsAre O ops) (hr : Region.ready md ops listed = []) (h : Q .normal a w) : wpAnyH P md O Q S fuel listed a w := by
  obtain ⟨rfl⟩ := hO
  exact wpAnyH_done hr h _

theorem region_goH {id : Nat} {a : Act} {w : World} (S : World → Prop) (n : Nat) (hm : P.follows .mixedOrders = true) (hn : ops.size = n) (hS : S w.drew)
    (h : ∀ O, OpsAre O ops → S w.drew → wpAnyH P .any O Q S n (Array.replicate n false) a w.drew) : (Code.region id ops true).wp P Q a w := by
  subst hn
  exact region_go S hm hS (h ops ⟨rfl⟩)
end

end Go.Proofs.YtpjbkaibgajpcaaGreat

namespace Go.Proofs.YtpjbkaibgajpcaaGreat
open Go.RowKit Go.ChangeMaps
set_option maxRecDepth 20000


theorem Turn.first {w W0 w' : World} {B : Nat} (hb : Below w.heap.size w W0) (hm : Mod (Turn W0 B) W0 w') (_hB : B ≤ w.heap.size) : Mod (Turn w B) w w' := by
  refine (Mod.of_below hb (F := Turn w B)).trans hm fun k hk ht => ⟨ht.1, ?_⟩
  have e := hb.block k hk
  rcases ht.2 with ⟨es, c, h⟩ | ⟨cs, fr, h⟩ | ⟨cs, fr, h⟩
  · exact .inl ⟨es, c, by rw [← e]; exact h⟩
  · exact .inr (.inl ⟨cs, fr, by rw [← e]; exact h⟩)
  · exact .inr (.inr ⟨cs, fr, by rw [← e]; exact h⟩)

end Go.Proofs.YtpjbkaibgajpcaaGreat

namespace Go.Proofs.YtpjbkaibgajpcaaGreat
open Go.RowKit Go.ChangeMaps
set_option maxRecDepth 20000

structure GP (B p m : Nat) (Q : Gr) (N : List Int) (E : Eg) (w : World) : Prop where
  g : GrAt w p m Q
  rel : Rel Q N E
  low : B ≤ p ∧ B ≤ m ∧ ∀ q ∈ Q, B ≤ q.2.1
  big : B ≤ w.heap.size

theorem GS.gp {B p m c : Nat} {Q : Gr} {N : List Int} {E : Eg} {w : World} (h : GS B p m c Q N E w) : GP B p m Q N E w := ⟨h.g, h.rel, h.low, h.big⟩

theorem GP.below {B p m : Nat} {Q : Gr} {N : List Int} {E : Eg} {w w' : World} (h : GP B p m Q N E w) (hb : Below w.heap.size w w') : GP B p m Q N E w' :=
  ⟨h.g.kept fun k hk => hb.block k hk, h.rel, h.low, Nat.le_trans h.big hb.size⟩

theorem GP.shut {B p m : Nat} {Q : Gr} {N : List Int} {E : Eg} {w : World} (h : GP B p m Q N E w) : ShutQ Q := h.rel.shut h.g.keys

theorem GP.len {B p m : Nat} {Q : Gr} {N : List Int} {E : Eg} {w : World} (h : GP B p m Q N E w) : Q.length = N.length := by
  have h1 := nodup_le h.g.keys fun x hx => (h.rel.keys x).1 hx
  have h2 := nodup_le (sorted_nodup h.rel.sorted) fun x hx => (h.rel.keys x).2 hx
  simp only [List.length_map] at h1 h2
  omega

theorem GP.to {B p m : Nat} {Q Q' : Gr} {N : List Int} {E E' : Eg} {w w' : World} (h : GP B p m Q N E w) (hn : SameN Q Q') (hr : Rel Q' N E') (hg : GrAt w' p m Q') (hm : Mod (BlocksOf Q) w w') : GP B p m Q' N E' w' ∧ Mod (Turn w B) w w' := by
  refine ⟨⟨hg, hr, ⟨h.low.1, h.low.2.1, fun q hq => ?_⟩, Nat.le_trans h.big hm.size⟩, hm.mono fun j _ hf => ⟨by obtain ⟨q, hq, e⟩ := hf; rw [e]; exact h.low.2.2 q hq, .inl (h.g.blocks_map j hf)⟩⟩
  have : q.2.1 ∈ Q'.map (fun q => q.2.1) := List.mem_map_of_mem (f := fun q => q.2.1) hq
  rw [hn.1, List.mem_map] at this
  obtain ⟨r, hr, e⟩ := this
  rw [← e]; exact h.low.2.2 r hr

theorem GP.bind {B p m : Nat} {Q : Gr} {N : List Int} {E : Eg} {w : World} (h : GP B p m Q N E w) (x y : Int) :
    Calls Tryz.prog 60 #[.pointer (some ⟨p, 0, none⟩), .int .u64 x, .int .u64 y] w fun e w1 => e = .returned (.int .i64 (bindD N E x y).1) ∧ (∃ Q', GP B p m Q' N (bindD N E x y).2 w1) ∧ Mod (Turn w B) w w1 := by
  refine (gBind w p m Q x y h.g).mono ?_
  rintro e w1 ⟨rfl, hg, hm⟩
  obtain ⟨h1, h2, h3⟩ := h.rel.bind x y
  have := h.to h3 h2 hg hm
  exact ⟨by rw [h1], ⟨_, this.1⟩, this.2⟩

theorem GP.link {B p m : Nat} {Q : Gr} {N : List Int} {E : Eg} {w : World} (h : GP B p m Q N E w) (x y : Int) :
    Calls Tryz.prog 61 #[.pointer (some ⟨p, 0, none⟩), .int .u64 x, .int .u64 y] w fun e w1 => e = .returned (.int .i64 (linkD N E x y).1) ∧ (∃ Q', GP B p m Q' N (linkD N E x y).2 w1) ∧ Mod (Turn w B) w w1 := by
  refine (gLink w p m Q x y h.g).mono ?_
  rintro e w1 ⟨rfl, hg, hm⟩
  obtain ⟨h1, h2, h3⟩ := h.rel.link x y
  have := h.to h3 h2 hg hm
  exact ⟨by rw [h1], ⟨_, this.1⟩, this.2⟩

theorem GP.cut {B p m : Nat} {Q : Gr} {N : List Int} {E : Eg} {w : World} (h : GP B p m Q N E w) (x y : Int) :
    Calls Tryz.prog 87 #[.pointer (some ⟨p, 0, none⟩), .int .u64 x, .int .u64 y] w fun e w1 => e = .returned (.int .i64 (cutD N E x y).1) ∧ (∃ Q', GP B p m Q' N (cutD N E x y).2 w1) ∧ Mod (Turn w B) w w1 := by
  refine (gCut w p m Q x y h.g).mono ?_
  rintro e w1 ⟨rfl, hg, hm⟩
  obtain ⟨h1, h2, h3⟩ := h.rel.cut x y
  have := h.to h3 h2 hg hm
  exact ⟨by rw [h1], ⟨_, this.1⟩, this.2⟩

def addD (N : List Int) (x : Int) : Int × List Int := if x ∈ N then (7, N) else (0, putZ N x)

theorem GP.add {B p m : Nat} {Q : Gr} {N : List Int} {E : Eg} {w : World} (h : GP B p m Q N E w) (x : Int) :
    Calls Tryz.prog 59 #[.pointer (some ⟨p, 0, none⟩), .int .u64 x] w fun e w1 => e = .returned (.int .i64 (addD N x).1) ∧ (∃ Q', GP B p m Q' (addD N x).2 E w1) ∧ Mod (Turn w B) w w1 := by
  refine (gAdd w p m Q x h.g).mono ?_
  rintro e w1 (⟨hh, rfl, rfl⟩ | ⟨hh, rfl, hg, hm⟩)
  · have hx : x ∈ N := (h.rel.keys x).1 (hasB_iff.1 hh)
    have ha : addD N x = (7, N) := by unfold addD; rw [if_pos hx]
    rw [ha]
    exact ⟨rfl, ⟨Q, h⟩, Mod.refl _ _⟩
  · have hx : x ∉ N := fun hx => by rw [hasB_iff.2 ((h.rel.keys x).2 hx)] at hh; cases hh
    have ha : addD N x = (0, putZ N x) := by unfold addD; rw [if_neg hx]
    rw [ha]
    refine ⟨rfl, ⟨_, ⟨hg, h.rel.add hx _, ⟨h.low.1, h.low.2.1, fun q hq => ?_⟩, Nat.le_trans h.big hm.size⟩⟩, hm.mono fun j hj e => ⟨e ▸ h.low.2.1, .inl (e ▸ h.g.outer.isMap)⟩⟩
    rcases List.mem_append.1 hq with hq | hq
    · exact h.low.2.2 q hq
    · rw [List.mem_singleton.1 hq]; exact h.big

theorem GP.near {B p m : Nat} {Q : Gr} {N : List Int} {E : Eg} {w : World} (h : GP B p m Q N E w) (hl : N.length ≤ 100000) (x : Int) :
    Calls Tryz.prog 45 #[.pointer (some ⟨p, 0, none⟩), .int .u64 x] w (NewL w (nearD E x false)) := by
  have := gNear w p m Q x h.g (near_len h.g h.shut (by rw [h.len]; omega))
  rw [h.rel.near h.g.inn] at this
  exact this

theorem GP.soft {B p m : Nat} {Q : Gr} {N : List Int} {E : Eg} {w : World} (h : GP B p m Q N E w) (hl : N.length ≤ 100000) (x : Int) :
    Calls Tryz.prog 44 #[.pointer (some ⟨p, 0, none⟩), .int .u64 x] w (NewL w (nearD E x true)) := by
  have := gSoft w p m Q x h.g (near_len h.g h.shut (by rw [h.len]; omega))
  rw [h.rel.soft h.g.inn] at this
  exact this

theorem gReach_no (w : World) (p m : Nat) (Q : Gr) (k : Int) (h : GrAt w p m Q) (hb : hasB Q k = false) :
    Calls Tryz.prog 51 #[.pointer (some ⟨p, 0, none⟩), .int .u64 k] w fun e w' => e = .returned (.slice none 0 0) ∧ w' = w := by
  have cH := gHas w p m Q k h
  rw [hb] at cH
  clear h
  go_enter Tryz.func51, Tryz.ntmps51
  go_wp2_with (go_at_call 80; refine cH.mono ?_; rintro e w' ⟨rfl, rfl⟩)
  go_ret
  exact ⟨rfl, rfl⟩

theorem NewL.nil {w : World} {e : Ending} (he : e = .returned (.slice none 0 0)) {w' : World} (hw : w' = w) : NewL w [] e w' := by
  subst hw
  exact ⟨_, he, ⟨rfl, .inl ⟨rfl, rfl⟩⟩, Below.refl _ _⟩

theorem GP.reach {B p m : Nat} {Q : Gr} {N : List Int} {E : Eg} {w : World} (h : GP B p m Q N E w) (hl : N.length ≤ 100000) (x : Int) :
    Calls Tryz.prog 51 #[.pointer (some ⟨p, 0, none⟩), .int .u64 x] w (NewL w (reachD N E x false)) := by
  unfold reachD
  cases hb : hasB Q x with
  | true =>
    rw [if_pos ((h.rel.keys x).1 (hasB_iff.1 hb))]
    refine (gReach w p m Q x h.g hb h.shut (by rw [h.len]; omega)).mono ?_
    rintro e w' ⟨L, hF, hN⟩
    rw [h.rel.reach hF] at hN
    exact hN
  | false =>
    rw [if_neg (fun hx => by rw [hasB_iff.2 ((h.rel.keys x).2 hx)] at hb; cases hb)]
    exact (gReach_no w p m Q x h.g hb).mono fun e w' hh => NewL.nil hh.1 hh.2

theorem GP.has {B p m : Nat} {Q : Gr} {N : List Int} {E : Eg} {w : World} (h : GP B p m Q N E w) (x : Int) :
    Calls Tryz.prog 80 #[.pointer (some ⟨p, 0, none⟩), .int .u64 x] w fun e w' => e = .returned (.bool (decide (x ∈ N))) ∧ w' = w := by
  have := gHas w p m Q x h.g
  rwa [show hasB Q x = decide (x ∈ N) from by rw [Bool.eq_iff_iff, hasB_iff, h.rel.keys, decide_eq_true_eq]] at this

theorem GP.keys {B p m : Nat} {Q : Gr} {N : List Int} {E : Eg} {w : World} (h : GP B p m Q N E w) (hl : N.length ≤ 100000) :
    Calls Tryz.prog 43 #[.pointer (some ⟨p, 0, none⟩)] w (NewL w N) := by
  have := gKeys w p m Q h.g (by rw [h.len]; omega)
  rw [sortedI_ext (sortZ_sorted h.g.keys) h.rel.sorted fun x => by rw [mem_sortZ, h.rel.keys]] at this
  exact this

theorem GP.length {B p m : Nat} {Q : Gr} {N : List Int} {E : Eg} {w : World} (h : GP B p m Q N E w) :
    Calls Tryz.prog 40 #[.pointer (some ⟨p, 0, none⟩)] w fun e w' => e = .returned (.int .i64 N.length) ∧ w' = w := by
  have := gLen w p m Q h.g
  rwa [h.len] at this

theorem mem_addAll0 {xs : List Int} {x : Int} : x ∈ addAll [] xs ↔ x ∈ xs := by rw [mem_addAll]; simp

theorem GP.new (w : World) (xs N : List Int) (v : Value) (hN : Nums w .u64 v xs) (hb : LiesIn (fun b => b < w.heap.size) v xs.length) (hn : xs.length ≤ 1000000) (hs : N.Pairwise (· < ·)) (hm : ∀ x, x ∈ xs ↔ x ∈ N) :
    Calls Tryz.prog 58 #[v] w fun e w' => ∃ p m Q, e = .returned (.pointer (some ⟨p, 0, none⟩)) ∧ GP w.heap.size p m Q N [] w' ∧ Below w.heap.size w w' := by
  refine (gNew w xs v hN hb hn).mono ?_
  rintro e w' ⟨p, m, Q, rfl, hG, hB⟩
  exact ⟨p, m, Q, rfl, ⟨hG.at_, Rel.start hs (fun k => by rw [hG.nodes, mem_addAll0, hm]) (fun q hq => (hG.bare q hq).1), ⟨hG.base.1, hG.base.2, fun q hq => (hG.bare q hq).2⟩, hB.size⟩, hB⟩

end Go.Proofs.YtpjbkaibgajpcaaGreat
