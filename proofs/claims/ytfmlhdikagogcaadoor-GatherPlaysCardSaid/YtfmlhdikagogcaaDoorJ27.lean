/-
  gather's law: are two rows of mail alike; mail as the document has it.
  gather: what is left once a question has been put to the row.
  best.Merge of no number of hits.
  gather: Hear: the lists of what was told.
  gather's document: Hear: the plain law.
-/
import Derived.Test.YtfmlhdikagogcaaDoorJ26
import Derived.Test.YtfmlhdikagogcaaDoorJ24
import Derived.Test.YtfmlhdikagogcaaDoorJ19
import Derived.Test.YtfmlhdikagogcaaDoorJ20
import Derived.Test.YtfmlhdikagogcaaDoorJ22
import Derived.Test.YtfmlhdikagogcaaDoorJ25
namespace Go.Proofs.YtfmlhdikagogcaaDoor
open Go.RowKit
set_option maxRecDepth 20000

theorem load_mid_yields {P : Program} {op : Oper} {a : Act} {w : World} (ty : TypeId) (x : Operand) (ho : op.op = .load ty x) (b o : Nat) (hx : a.eval x = .pointer (some ⟨b, o, none⟩)) (cs : List Value) (d : TypeDesc) (hc : w.rangeAt b o cs)
    (hu : P.underlying ty = some d) (hd : d.isRow = true) (hi : (P.info? ty).map (·.size) = some cs.length) : (execOp a.eval op).run P w = .ok (.value (.agg cs.toArray)) w := by
  unfold execOp
  simp only [ho, hx, Instr.loadAt, Instr.sureAddr, Sem.run_bind, Sem.run_pure, Result.andThen_ok, run_loadVar_mid w b o ty cs d hc hu hd hi]

theorem mv_ones (m : Mv) (h : m.vp.oneCell' = true ∧ m.vo.oneCell' = true ∧ m.vv.oneCell' = true ∧ m.vh.oneCell' = true) : ∀ u ∈ m.cells, u.oneCell' = true := fun u hu =>
  flatM_one (rs := [m]) (fun r hr => by rw [List.mem_singleton.1 hr]; exact h) u (by simpa [flatM] using hu)

/-- a mail's note, in a row -/
theorem mail_range {w : World} {B e n : Nat} {v : Value} {rs : List Mv} (h : w.ownsRow B e 17 v n (flatM rs)) {k : Nat} (hk : k < rs.length) :
    ∃ b cap, v = .slice (some ⟨b, 0, none⟩) n cap ∧ w.cell? ⟨b, k * 17, none⟩ = some (.int .i64 rs[k].who) ∧ w.rangeAt b (k * 17 + 1) (rs[k].note.cells rs[k].vp rs[k].vo rs[k].vv rs[k].vh).toList ∧ w.rangeAt b (k * 17) rs[k].cells := by
  have hl := h.1
  rw [flatM_length] at hl
  obtain ⟨h1, ⟨h2, h3⟩ | ⟨g, cap, cur, hv, hb, hg, hn, hc, hz, ht⟩⟩ := h
  · omega
  · have each : w.rangeAt g (k * 17) rs[k].cells := fun j u hj => by
      have hjs : j < 17 := by have := (List.getElem?_eq_some_iff.1 hj).1; rwa [Mv.cells_length] at this
      rw [← flatM_get rs k hk j hjs, ← ht, List.getElem?_take] at hj
      split at hj
      · simp only [World.cell?, hg]; simpa using hj
      · cases hj
    refine ⟨g, cap, hv, by have := each 0 _ rfl; simpa using this, fun j u hj => ?_, each⟩
    have := each (1 + j) u (by rw [Nat.add_comm]; exact hj)
    rw [← Nat.add_assoc] at this
    exact this

set_option maxHeartbeats 4000000 in
theorem sameMail (rs ss : List Mv) (F G : Nat → Prop) (v u : Value) (B1 B2 e1 e2 : Nat) (w : World) (ho : w.ownsRow B1 e1 17 v rs.length (flatM rs)) (hu : w.ownsRow B2 e2 17 u ss.length (flatM ss)) (hs : rs.map Mv.says = ss.map Mv.says) (hm : MailF w F rs) (hg : MailF w G ss) (hl : rs.length ≤ 1000000) :
    Calls Tryd.prog 27 #[v, u] w fun e w' => e = .returned (.bool true) ∧ Below w.heap.size w w' := by
  have hlen : rs.length = ss.length := by have := congrArg List.length hs; simpa using this
  obtain ⟨pq, pm, pc, rfl⟩ := own_form ho
  obtain rfl : pm = rs.length := own_len ho
  obtain ⟨sq, sm, sc, rfl⟩ := own_form hu
  obtain rfl : sm = ss.length := own_len hu
  have HO := Lib.hid (And.intro ho (And.intro hu (And.intro hs (And.intro hm hg))))
  have HLN := Lib.hid hlen
  have HL := Lib.hid hl
  rw [← hlen]
  obtain ⟨N, hN⟩ : ∃ N, N = rs.length := ⟨_, rfl⟩
  rw [← hN]
  have HN := Lib.hid hN
  have hl9 : N ≤ 9223372036854775807 := by omega
  clear ho hu hs hm hg hlen hl hN
  go_enter Tryd.func27, Tryd.ntmps27
  go_wp2_with fail
  go_loopg [13] N (fun m i wr => ∃ k : Nat, m = N - k ∧ k ≤ N ∧ i = .int .i64 k ∧ Below w.heap.size w wr)
  case atStart => exact ⟨0, rfl, by omega, rfl, Below.refl _ _⟩
  case round =>
    obtain ⟨k, rfl, hk, rfl, hb⟩ := hrel
    have BW := Lib.hid hb
    by_cases hlt : k < N
    · have hkr : k < rs.length := by rw [← HN.out]; exact hlt
      have hks : k < ss.length := by rw [← HLN.out]; exact hkr
      obtain ⟨b1, cap1, hv1, c1, r1, -⟩ := mail_range (own_below HO.out.1 hb) hkr
      obtain ⟨b2, cap2, hv2, c2, r2, -⟩ := mail_range (own_below HO.out.2.1 hb) hks
      obtain ⟨rfl, -, rfl⟩ := Value.slice.inj hv1
      obtain ⟨rfl, -, rfl⟩ := Value.slice.inj hv2
      have hsk : rs[k].says = ss[k].says := by
        have h := congrArg (fun l => l[k]?) HO.out.2.2.1
        simp only [List.getElem?_map, List.getElem?_eq_getElem hkr, List.getElem?_eq_getElem hks, Option.map_some] at h
        exact Option.some.inj h
      obtain ⟨hw, hnt⟩ := Prod.mk.inj hsk
      have hm1 := HO.out.2.2.2.1 rs[k] (List.getElem_mem hkr)
      have hm2 := HO.out.2.2.2.2 ss[k] (List.getElem_mem hks)
      obtain ⟨NA, hNA⟩ : ∃ NA, NA = (rs[k].note.cells rs[k].vp rs[k].vo rs[k].vv rs[k].vh).toList := ⟨_, rfl⟩
      obtain ⟨NB, hNB⟩ : ∃ NB, NB = (ss[k].note.cells ss[k].vp ss[k].vo ss[k].vv ss[k].vh).toList := ⟨_, rfl⟩
      rw [← hNA] at r1
      rw [← hNB] at r2
      obtain ⟨y, hy⟩ : ∃ y, y = rs[k].who := ⟨_, rfl⟩
      rw [← hy] at c1
      rw [← hw, ← hy] at c2
      have SA : (Tryd.prog.info? 53).map (·.size) = some NA.length := by rw [hNA]; kernel_rfl
      have SB : (Tryd.prog.info? 53).map (·.size) = some NB.length := by rw [hNB]; kernel_rfl
      obtain ⟨Wd, hWd⟩ : ∃ Wd, Wd = wr.drew := ⟨_, rfl⟩
      have bd : Below wr.heap.size wr Wd := by rw [hWd]; exact (Below.refl _ _).drew
      have HWd := Lib.hid hWd
      have BD := Lib.hid (BW.out.trans (bd.mono BW.out.size))
      have SN := Lib.hid (show Calls Tryd.prog 29 #[.agg NA.toArray, .agg NB.toArray] Wd fun e w' => e = .returned (.bool true) ∧ Below Wd.heap.size Wd w' by
        have h := sameNote rs[k].note _ _ _ _ _ _ ss[k].vp ss[k].vo ss[k].vv ss[k].vh Wd (hm1.read.below BD.out) (by rw [show rs[k].note = ss[k].note from hnt]; exact hm2.read.below BD.out)
        rw [show NA.toArray = rs[k].note.cells rs[k].vp rs[k].vo rs[k].vv rs[k].vh by rw [hNA], show NB.toArray = rs[k].note.cells ss[k].vp ss[k].vo ss[k].vv ss[k].vh by rw [hNB, show rs[k].note = ss[k].note from hnt]]
        exact h)
      clear hWd hb hv1 hv2 hsk hw hnt hm1 hm2 hNA hNB hy
      go_upto_region 6 with fail
      refine region_go (fun w' => w'.cell? ⟨b1, k * 17, none⟩ = some (.int .i64 y) ∧ w'.cell? ⟨b2, k * 17, none⟩ = some (.int .i64 y) ∧ w'.rangeAt b1 (k * 17 + 1) NA ∧ w'.rangeAt b2 (k * 17 + 1) NB) (by kernel_rfl) ?hS0 (fun hH => ?_)
      case hS0 =>
        rw [← HWd.out]; exact ⟨below_cells bd c1, below_cells bd c2, rangeAt_below r1 bd, rangeAt_below r2 bd⟩
      rw [← HWd.out] at hH ⊢
      refine kY 0 hH ?_
      repeat simp only [Act.put, uA1, uB1, uC1]
      refine kY 1 hH ?_
      repeat simp only [Act.put, uA1, uB1, uC1]
      refine kY 2 hH ?_
      repeat simp only [Act.put, uA1, uB1, uC1]
      refine kY 3 hH ?_
      repeat simp only [Act.put, uA1, uB1, uC1]
      refine kY 4 hH ?_
      repeat simp only [Act.put, uA1, uB1, uC1]
      refine kY 5 hH ?_
      repeat simp only [Act.put, uA1, uB1, uC1]
      refine kY 6 hH ?_
      repeat simp only [Act.put, uA1, uB1, uC1]
      refine kY 7 hH ?_
      repeat simp only [Act.put, uA1, uB1, uC1]
      refine kY 8 hH ?_
      repeat simp only [Act.put, uA1, uB1, uC1]
      refine kY 9 hH ?_
      repeat simp only [Act.put, uA1, uB1, uC1]
      refine kY 10 hH ?_
      repeat simp only [Act.put, uA1, uB1, uC1]
      refine kY 11 hH ?_
      repeat simp only [Act.put, uA1, uB1, uC1]
      refine kY 12 hH ?_
      repeat simp only [Act.put, uA1, uB1, uC1]
      refine kY 13 hH ?_
      repeat simp only [Act.put, uA1, uB1, uC1]
      refine kY 14 hH ?_
      repeat simp only [Act.put, uA1, uB1, uC1]
      refine kY 15 hH ?_
      repeat simp only [Act.put, uA1, uB1, uC1]
      refine kY 16 hH ?_ (v := (.agg NA.toArray)) (hy := by intro w hS; exact load_mid_yields 53 _ rfl b1 (k * 17 + 1) (by rfl) NA _ hS.2.2.1 Tryd.underlying53 rfl SA)
      repeat simp only [Act.put, uA1, uB1, uC1]
      refine kY 17 hH ?_
      repeat simp only [Act.put, uA1, uB1, uC1]
      refine kY 18 hH ?_
      repeat simp only [Act.put, uA1, uB1, uC1]
      refine kY 19 hH ?_
      repeat simp only [Act.put, uA1, uB1, uC1]
      refine kY 20 hH ?_
      repeat simp only [Act.put, uA1, uB1, uC1]
      refine kY 21 hH ?_ (v := (.agg NB.toArray)) (hy := by intro w hS; exact load_mid_yields 53 _ rfl b2 (k * 17 + 1) (by rfl) NB _ hS.2.2.2 Tryd.underlying53 rfl SB)
      repeat simp only [Act.put, uA1, uB1, uC1]
      refine spk 22 rfl (by decide +kernel) (by rfl) (fun K' hK => ?_)
      go_simp
      with_reducible refine SN.out.mono ?_
      rintro e w5 ⟨rfl, hbn⟩
      have B5 := Lib.hid (BD.out.trans (hbn.mono BD.out.size))
      try dsimp only
      refine hK.out _ _ ?hS (fun hH' => ?_)
      case hS =>
        exact ⟨below_cells hbn hH.1, below_cells hbn hH.2.1, rangeAt_below hH.2.2.1 hbn, rangeAt_below hH.2.2.2 hbn⟩
      clear hK K' hH; have hH := hH'; clear hH'; repeat simp only [Act.put, uA1, uB1, uC1]
      refine kY 23 hH ?_
      repeat simp only [Act.put, uA1, uB1, uC1]
      refine kY 24 hH ?_
      repeat simp only [Act.put, uA1, uB1, uC1]
      refine wpAnyH_done (by decide +kernel) ?_ _
      clear hH
      go_wp2_with fail
      go_roundg (N - (k + 1))
      case measure => omega
      case rel => exact ⟨k + 1, rfl, by omega, by go_num, B5.out⟩
    · obtain rfl : k = N := by omega
      go_wp2_with fail
      go_ret
      exact ⟨rfl, hb⟩

set_option maxHeartbeats 4000000 in
theorem mailConv (rs : List Mv) (F : Nat → Prop) (v : Value) (B1 e1 : Nat) (w : World) (ho : w.ownsRow B1 e1 17 v rs.length (flatM rs)) (hm : MailF w F rs) (hl : rs.length ≤ 10000) :
    Calls Tryd.prog 28 #[v] w fun e w' => ∃ u, e = .returned u ∧ w'.ownsRow w.heap.size 120 17 u rs.length (flatM rs) ∧ Below w.heap.size w w' := by
  obtain ⟨pq, pm, pc, rfl⟩ := own_form ho
  obtain rfl : pm = rs.length := own_len ho
  have HO := Lib.hid (And.intro ho hm)
  have HL := Lib.hid hl
  have hl9 : rs.length ≤ 9223372036854775807 := by omega
  clear ho hm hl
  go_enter Tryd.func28, Tryd.ntmps28
  go_wp2_with fail
  go_loopg [3, 8] rs.length (fun m out i wr => ∃ k : Nat, m = rs.length - k ∧ k ≤ rs.length ∧ i = .int .i64 k ∧ wr.ownsRow w.heap.size 120 17 out k (flatM (rs.take k)) ∧ Below w.heap.size w wr)
  case atStart => exact ⟨0, rfl, by omega, rfl, World.ownsRow_nil _ _ _ _, Below.refl _ _⟩
  case round =>
    obtain ⟨k, rfl, hk, rfl, hown, hb⟩ := hrel
    by_cases hlt : k < rs.length
    · obtain ⟨b1, cap1, hv1, -, -, r1⟩ := mail_range (own_below HO.out.1 hb) hlt
      obtain ⟨rfl, -, rfl⟩ := Value.slice.inj hv1
      have O := Lib.hid (And.intro hown hb)
      obtain ⟨n, hn⟩ : ∃ n, n = rs[k].note := ⟨_, rfl⟩
      obtain ⟨y, hy⟩ : ∃ y, y = rs[k].who := ⟨_, rfl⟩
      obtain ⟨vp, hvp⟩ : ∃ vp, vp = rs[k].vp := ⟨_, rfl⟩
      obtain ⟨vo, hvo⟩ : ∃ vo, vo = rs[k].vo := ⟨_, rfl⟩
      obtain ⟨vv, hvv⟩ : ∃ vv, vv = rs[k].vv := ⟨_, rfl⟩
      obtain ⟨vh, hvh⟩ : ∃ vh, vh = rs[k].vh := ⟨_, rfl⟩
      have hrk : rs[k] = ⟨y, n, vp, vo, vv, vh⟩ := by rw [hy, hn, hvp, hvo, hvv, hvh]
      have hones := (HO.out.2 rs[k] (List.getElem_mem hlt)).one
      rw [hrk] at r1 hones
      simp only at hones
      obtain ⟨PS, hPS⟩ : ∃ PS : List Value, PS = Mv.cells ⟨y, n, vp, vo, vv, vh⟩ := ⟨_, rfl⟩
      rw [← hPS] at r1
      have LEN : PS.length = 17 := by rw [hPS]; rfl
      have SZ : (Tryd.prog.info? 44).map (·.size) = some PS.length := by rw [LEN]; kernel_rfl
      have SZ' : (Tryd.prog.info? 44).map (·.size) = some PS.toArray.size := by rw [List.size_toArray, LEN]; kernel_rfl
      have ON := mv_ones ⟨y, n, vp, vo, vv, vh⟩ hones
      have ONE : PS.toArray.all (·.oneCell') = true := by
        rw [hPS, Array.all_eq_true_iff_forall_mem]
        exact fun u hu => ON u (by simpa using hu)
      have hsz : (#[.int .i64 0, .int .u8 0, .int .u64 0, .int .u64 0, .int .u64 0, .int .u64 0, .int .u64 0, .int .u64 0, .int .u64 0, .int .i64 0, .int .i64 0, .int .i64 0, .int .i64 0, .slice none 0 0, .slice none 0 0, .slice none 0 0, .slice none 0 0] : Array Value).size = PS.toArray.size := by rw [show PS.toArray.size = 17 by rw [List.size_toArray, LEN]]; rfl
      obtain ⟨W5, hW5⟩ : ∃ W5, W5 = (wr.alloc (.cells #[.int .i64 0, .int .u8 0, .int .u64 0, .int .u64 0, .int .u64 0, .int .u64 0, .int .u64 0, .int .u64 0, .int .u64 0, .int .i64 0, .int .i64 0, .int .i64 0, .int .i64 0, .slice none 0 0, .slice none 0 0, .slice none 0 0, .slice none 0 0] 44)).setRow wr.heap.size PS.toArray := ⟨_, rfl⟩
      have b5 : Below wr.heap.size wr W5 := by rw [hW5]; exact below_setRow ((Below.refl _ _).alloc (Nat.le_refl _) _) (Nat.le_refl _) _
      have y5 : W5.heap[wr.heap.size]? = some (.cells PS.toArray 44 (0, 0)) := by rw [hW5]; exact setRow_heap _ _ _ _ _ _ (heap_alloc_new _ _)
      have x0 : W5.cell? ⟨wr.heap.size, 0, none⟩ = some (.int .i64 y) := by rw [cells_get y5 0, List.getElem?_toArray, hPS]; rfl
      have RN : W5.rangeAt wr.heap.size 1 [.int .u8 n.kind, .int .u64 n.txn, .int .u64 n.batch, .int .u64 n.stamp, .int .u64 n.after, .int .u64 n.mark, .int .u64 n.query, .int .u64 n.id, .int .i64 n.k, .int .i64 n.ef, .int .i64 n.code, .int .i64 n.who, vp, vo, vv, vh] := fun j u hj => by
        rw [cells_get y5 (1 + j), List.getElem?_toArray, hPS, Nat.add_comm]
        exact hj
      have HW5 := Lib.hid hW5
      obtain ⟨g6, c6, w6, hrun, hown6, hg6, hat6, hlt6⟩ := run_push rowMailR (own_below hown b5) (Nat.le_trans hb.size b5.size) #[.int .i64 y, .int .u8 n.kind, .int .u64 n.txn, .int .u64 n.batch, .int .u64 n.stamp, .int .u64 n.after, .int .u64 n.mark, .int .u64 n.query, .int .u64 n.id, .int .i64 n.k, .int .i64 n.ef, .int .i64 n.code, .int .i64 n.who, vp, vo, vv, vh] rfl ON (by have := HL.out; simp [maxLen]; omega) (by have := HL.out; omega)
      have NX := Lib.hid (show w6.ownsRow w.heap.size 120 17 (.slice (some ⟨g6, 0, none⟩) (k + 1) c6) (k + 1) (flatM (rs.take (k + 1))) by
        rw [List.take_succ_eq_append_getElem hlt, flatM_append, hrk]
        simp only [flatM, List.append_nil]
        exact hown6)
      have B6 := Lib.hid ((((hb.trans (b5.mono hb.size)).alloc (Nat.le_trans hb.size b5.size) _).grown hg6 (by have := hb.size; have := b5.size; simp; omega) (fun b e => (hown.lt b e).1)))
      obtain ⟨oq, om, oc, rfl⟩ := own_form hown
      clear hown hb hW5 b5 y5 hown6 hg6 hat6 hlt6 hv1 hn hy hvp hvo hvv hvh hrk hones hPS ON
      go_upto_region 5 with (first | refine wpList_load_mid rfl 44 _ rfl b1 (k * 17) (by rfl) PS _ r1 Tryd.underlying44 rfl SZ ?_ | refine wpList_store_row rfl 44 _ _ rfl wr.heap.size PS.toArray (by rfl) (by rfl) 44 #[.int .i64 0, .int .u8 0, .int .u64 0, .int .u64 0, .int .u64 0, .int .u64 0, .int .u64 0, .int .u64 0, .int .u64 0, .int .i64 0, .int .i64 0, .int .i64 0, .int .i64 0, .slice none 0 0, .slice none 0 0, .slice none 0 0, .slice none 0 0] (heap_alloc_new _ _) SZ' hsz ONE ?_)
      rw [← HW5.out]
      clear r1 SZ SZ' ONE hsz
      go_wp2_with (first | (with_reducible refine wpList_append_eq hrun rfl _ _ rfl rfl rfl ?_) | refine wpList_load_mid rfl 37 _ rfl wr.heap.size 1 (by rfl) _ _ RN Tryd.underlying37 rfl (by kernel_rfl) ?_)
      go_roundg (rs.length - (k + 1))
      case measure => omega
      case rel => exact ⟨k + 1, rfl, by omega, by go_num, NX.out, B6.out⟩
    · obtain rfl : k = rs.length := by omega
      go_wp2_with fail
      go_ret
      exact ⟨_, rfl, by rw [List.take_length] at hown; exact hown, hb⟩

end Go.Proofs.YtfmlhdikagogcaaDoor

namespace Go.Proofs.YtfmlhdikagogcaaDoor
open Go.RowKit
set_option maxRecDepth 20000

/-- the gather has been changed, then mail was told -/
theorem GTold.after {w w1 w' : World} {B c : Nat} {F R E F' R' RR : Nat → Prop} {g' : Gz} {l : List (Int × Nt)} {r : Ending} (hG : GAt w1 B c F' R' g') (hm : Mod F w w1) (hF' : ∀ k, F' k → F k ∨ w.heap.size ≤ k) (hR' : ∀ k, R' k → R k ∨ E k ∨ w.heap.size ≤ k)
    (hRR : ∀ k, RR k → k < w1.heap.size) (h : NewMails w1 44 RR l r w') : GTold w B c F R E l g' r w' := by
  obtain ⟨v, rs, G, rfl, ho, hs, hm', hG', hb'⟩ := h
  refine ⟨v, rs, G, F', R', rfl, own_mono ho hm.size, hs, hm', fun k hk => ⟨(hG' k hk).1, (hG' k hk).2.1⟩, fun k hk hF => ?_, hG.below hb', hm.andBelow hb', hF', hR'⟩
  obtain ⟨lv, Q, hI⟩ := hG
  have h1 := (hI.low k hF).2
  have h2 := (ho.lt k hk).1
  omega

/-- what a new question's blocks are -/
def newR (lo hi mb : Nat) (k : Nat) : Prop := lo ≤ k ∧ k < hi ∧ k ≠ mb

theorem GIn.asked {w W13 W14 W15 : World} {B c g1 c1 : Nat} {F R : Nat → Prop} {g : Gz} {lv : Value} {Q : List Qp} {q : Qs} {x : Qp} {last : Int} {o : Obj} (h : GIn w B c F R g lv Q) (hB : B ≤ w.heap.size) (hM : Mod (fun k => k = c) w W13)
    (hc : W13.heap[c]? = some (.cells #[.int .i64 g.shards, .int .i64 g.dim, .int .u64 last, lv] 80 (0, 0)))
    (hq : QAt W13 (newR w.heap.size W13.heap.size x.mb) x.b x.mb q x.vp x.vo x.vv x.vh x.pv) (hmb : w.heap.size ≤ x.mb ∧ x.mb < W13.heap.size)
    (ho : W14.ownsRow B 82 1 (.slice (some ⟨g1, 0, none⟩) (g.l.length + 1) c1) (g.l.length + 1) (Q.map Qp.ptr ++ [x.ptr])) (hg : (W13.alloc o).grownBy W14 lv.ownBlock) (hgg : lv.ownBlock = some g1 ∨ g1 = W13.heap.size + 1) (hlt : g1 < W14.heap.size)
    (hW : W15 = W14.setCell ⟨c, 3, none⟩ (.slice (some ⟨g1, 0, none⟩) (g.l.length + 1) c1)) :
    (∃ F' R' : Nat → Prop, GAt W15 B c F' R' {g with last := last, l := g.l ++ [q]} ∧ (∀ k, F' k → F k ∨ w.heap.size ≤ k) ∧ (∀ k, R' k → R k ∨ w.heap.size ≤ k)) ∧ Mod F w W15 ∧ (∀ k, newR w.heap.size W13.heap.size x.mb k → k < W15.heap.size) ∧ QAt W15 (newR w.heap.size W13.heap.size x.mb) x.b x.mb q x.vp x.vo x.vv x.vh x.pv := by
  have hcl := (h.low c h.here).2
  have hs13 := hM.size
  have hs14 := hg.size
  rw [World.size_alloc] at hs14
  have hlvl : ∀ k, lv.ownBlock = some k → k < w.heap.size ∧ k ≠ c := fun k hk => ⟨(h.low k (h.lvF k hk).1).2, (h.lvF k hk).2⟩
  have hk14 : ∀ k, k < W13.heap.size → lv.ownBlock ≠ some k → W14.heap[k]? = W13.heap[k]? := fun k hk hne => by
    rw [hg.block k (by rw [World.size_alloc]; omega) (fun e => hne e.symm)]; exact Below.heap_alloc W13 o k hk
  have hsz : W15.heap.size = W14.heap.size := by rw [hW]; simp [World.setCell]
  have hk15 : ∀ k, k < W13.heap.size → lv.ownBlock ≠ some k → k ≠ c → W15.heap[k]? = W13.heap[k]? := fun k hk hne hkc => by
    rw [hW, Below.heap_setCell _ _ _ _ (fun e => hkc e)]; exact hk14 k hk hne
  have hc14 := (hk14 c (by omega) (fun e => (hlvl c e).2 rfl)).trans hc
  have hc15 : W15.heap[c]? = some (.cells #[.int .i64 g.shards, .int .i64 g.dim, .int .u64 last, .slice (some ⟨g1, 0, none⟩) (g.l.length + 1) c1] 80 (0, 0)) := by
    rw [hW]; exact set_block hc14 3 _
  have hMM : Mod (fun k => k = c ∨ lv.ownBlock = some k) w W15 := by
    refine ⟨?_, ?_, ?_, by omega, fun k hk hne => ?_⟩
    · rw [hW]; exact hg.os.trans hM.os
    · rw [hW]; exact hg.tape.trans hM.tape
    · rw [hW]; exact hg.output.trans hM.output
    · rw [hk15 k (by omega) (fun e => hne (.inr e)) (fun e => hne (.inl e))]
      exact hM.block k hk (fun e => hne (.inl e))
  have hRo : ∀ k, newR w.heap.size W13.heap.size x.mb k → W15.heap[k]? = W13.heap[k]? := fun k hk => hk15 k hk.2.1 (fun e => by have := (hlvl k e).1; have := hk.1; omega) (fun e => by have := hk.1; omega)
  have hq15 : QAt W15 (newR w.heap.size W13.heap.size x.mb) x.b x.mb q x.vp x.vo x.vv x.vh x.pv := hq.agree hRo (hk15 x.mb hmb.2 (fun e => by have := (hlvl _ e).1; have := hmb.1; omega) (fun e => by have := hmb.1; omega))
  have ho15 : W15.ownsRow B 82 1 (.slice (some ⟨g1, 0, none⟩) (g.l.length + 1) c1) (g.l.length + 1) (Q.map Qp.ptr ++ [x.ptr]) := by
    rw [hW]
    refine ho.kept (grownBy_setCells c [_] 3 W14) (.inr ?_)
    intro e
    have e2 : g1 = c := by simpa [Value.ownBlock] using e
    rcases hgg with e3 | e3
    · exact (hlvl g1 e3).2 e2
    · omega
  have hlt15 : ∀ k, newR w.heap.size W13.heap.size x.mb k → w.heap.size ≤ k ∧ k < W15.heap.size := fun k hk => ⟨hk.1, by have := hk.2.1; omega⟩
  have P := h.pushed (RQ := newR w.heap.size W13.heap.size x.mb) hB hMM hc15 ho15 (fun k hk => by
    have e2 : g1 = k := by simpa [Value.ownBlock] using hk
    subst e2
    rcases hgg with e3 | e3
    · exact .inl e3
    · exact .inr ⟨by omega, fun e => by have := e.2.1; omega, by have := hmb.2; omega⟩) hq15 hlt15 ⟨hmb.1, by have := hmb.2; omega, fun e => e.2.2 rfl⟩
  refine ⟨⟨_, _, P.1, fun k hk => ?_, fun k hk => ?_⟩, P.2, fun k hk => (hlt15 k hk).2, hq15⟩
  · rcases hk with hk | rfl | hk
    · exact .inl hk
    · exact .inr hmb.1
    · have e2 : g1 = k := by simpa [Value.ownBlock] using hk
      subst e2
      rcases hgg with e3 | e3
      · exact .inl (h.lvF _ e3).1
      · exact .inr (by omega)
  · exact hk.imp id (fun h => h.1)

theorem rowQ : RowTy Tryd.prog 78 82 1 8 (.pointer none) := ⟨Tryd.underlying78, by kernel_rfl, rfl, by decide⟩
theorem rowI64 : RowTy Tryd.prog 33 3 1 8 (.int .i64 0) := ⟨Tryd.underlying33, by kernel_rfl, rfl, by decide⟩

theorem grownBy_of_mod {c : Nat} {w w' : World} (h : Mod (fun k => k = c) w w') : w.grownBy w' (some c) := ⟨h.os, h.tape, h.output, h.size, fun k hk hne => h.block k hk (fun e => hne (by rw [e]))⟩

/-- a new question -/
def madeQ (n : Nt) (frm stamp mark L : Int) (ps : List Int) : Qs := ⟨{n with kind := 9, stamp := stamp, mark := mark, query := L}, frm, n.query, ps, []⟩

theorem QAt.made {w w0 : World} {R E : Nat → Prop} {bq mb q0 q1 q2 q3 k7 : Nat} {p0 p1 p2 p3 p7 : Option Addr} {n : Nt} {frm stamp mark L : Int} {ps : List Int} {pv : Value} {t : TypeId} {cs : Array Value}
    (hY : w.heap[bq]? = some (.cells cs t (0, 0)))
    (hcs : cs = #[.int .u8 9, .int .u64 n.txn, .int .u64 n.batch, .int .u64 stamp, .int .u64 n.after, .int .u64 mark, .int .u64 L, .int .u64 n.id, .int .i64 n.k, .int .i64 n.ef, .int .i64 n.code, .int .i64 n.who, .slice p0 n.parts.length q0, .slice p1 n.ops.length q1, .slice p7 n.vec.length k7, .slice p3 n.hits.length q3, .int .i64 frm, .int .u64 n.query, pv, .map (some mb)])
    (hb : R bq) (h0 : NoteV w0 E n (.slice p0 n.parts.length q0) (.slice p1 n.ops.length q1) (.slice p2 n.vec.length q2) (.slice p3 n.hits.length q3)) (he : n.parts = [] ∧ n.ops = [] ∧ n.hits = [])
    (hv : Nums w .i32 (.slice p7 n.vec.length k7) n.vec) (hvR : ∀ k, (Value.slice p7 n.vec.length k7).ownBlock = some k → R k) (hp : Nums w .i64 pv ps) (hpR : ∀ k, pv.ownBlock = some k → R k) (hm : MapAt w (Value.int .i64) mb []) :
    QAt w R bq mb (madeQ n frm stamp mark L ps) (.slice p0 n.parts.length q0) (.slice p1 n.ops.length q1) (.slice p7 n.vec.length k7) (.slice p3 n.hits.length q3) pv := by
  subst hcs
  have hN : NoteM w0 (fun _ => True) n (.slice p0 n.parts.length q0) (.slice p1 n.ops.length q1) (.slice p2 n.vec.length q2) (.slice p3 n.hits.length q3) :=
    ⟨⟨h0.parts, h0.ops.mono (fun _ _ => trivial), h0.vec, h0.hits.mono (fun _ _ => trivial)⟩, fun _ _ _ => trivial, fun _ _ _ => trivial⟩
  have hN2 := (hN.swap he hv).mono hvR
  refine ⟨fun j u hj => ?_, ⟨_, _, hY⟩, hb, ?_, hp, fun _ k hk => hpR k hk, he, [], hm, rfl, fun i h => absurd h (by simp)⟩
  · rw [cells_get hY j, ← Array.getElem?_toList]; exact hj
  · exact ⟨⟨hN2.read.parts, hN2.read.ops, hN2.read.vec, hN2.read.hits⟩, hN2.parts, hN2.vec⟩

/-- the shards from the first on -/
def upTo (k : Nat) : List Int := (List.range k).map fun (p : Nat) => (p : Int) + 1

theorem upTo_length (k : Nat) : (upTo k).length = k := by simp [upTo]

theorem upTo_succ (k : Nat) : upTo (k + 1) = upTo k ++ [(k : Int) + 1] := by simp [upTo, List.range_succ]

/-- the parts of a new question, while they are put -/
structure PartsAt (W wr : World) (bq k : Nat) (cs : Array Value) (t : TypeId) (pv : Value) : Prop where
  mod : Mod (fun j => j = bq) W wr
  blk : wr.heap[bq]? = some (.cells (cs.setIfInBounds 18 pv) t (0, 0))
  own : wr.ownsRow W.heap.size 3 1 pv k ((upTo k).map (Value.int .i64))

theorem PartsAt.start {W : World} {bq : Nat} {cs : Array Value} {t : TypeId} (h : W.heap[bq]? = some (.cells cs t (0, 0))) (hc : cs.setIfInBounds 18 (.slice none 0 0) = cs) : PartsAt W W bq 0 cs t (.slice none 0 0) :=
  ⟨Mod.refl _ _, by rw [hc]; exact h, World.ownsRow_nil _ _ _ _⟩

theorem PartsAt.step {W wr w5 : World} {bq k : Nat} {cs : Array Value} {t : TypeId} {pv pv' : Value} {o : Obj} (h : PartsAt W wr bq k cs t pv) (hbq : bq < W.heap.size) (hg : (wr.alloc o).grownBy w5 pv.ownBlock)
    (ho : w5.ownsRow W.heap.size 3 1 pv' (k + 1) ((upTo k).map (Value.int .i64) ++ [.int .i64 ((k : Int) + 1)])) : PartsAt W (w5.setCell ⟨bq, 18, none⟩ pv') bq (k + 1) cs t pv' := by
  have hs := h.mod.size
  have hne : ∀ j, pv.ownBlock = some j → W.heap.size ≤ j := fun j e => (h.own.lt j e).1
  have hb : w5.heap[bq]? = wr.heap[bq]? := by
    rw [hg.block bq (by rw [World.size_alloc]; omega) (fun e => by have := hne bq e.symm; omega)]
    exact Below.heap_alloc wr o bq (by omega)
  refine ⟨?_, ?_, ?_⟩
  · exact ((h.mod.andBelow ((Below.refl _ _).alloc (Nat.le_refl _) o)).grown hg (fun j e => .inr (hne j e))).setCell (.inl rfl) _
  · have := set_block (hb.trans h.blk) 18 pv'
    rw [this]
    simp
  · rw [upTo_succ, List.map_append]
    exact ho.kept (grownBy_setCells bq [_] 18 w5) (.inr (fun e => by have := (ho.lt _ e).1; omega))

end Go.Proofs.YtfmlhdikagogcaaDoor

namespace Go.Proofs.YtfmlhdikagogcaaDoor
open Go.RowKit
set_option maxRecDepth 20000

theorem merge_no (n : Int) (hn : n < 1) (ls : List (List Hz)) (E : Nat → Prop) (v : Value) (w : World) (h : ListsF w E v ls) :
    Calls Tryd.prog 41 #[.int .i64 n, v] w (FreshHits w []) := by
  obtain ⟨p, cap, rfl, hcap, hbig, -, -⟩ := id h
  have hl9 : ls.length ≤ 9223372036854775807 := by omega
  have H := Lib.hid h
  clear h hcap hbig
  go_enter Tryd.func41, Tryd.ntmps41
  go_wp2_with fail
  refine (new_no n w (.inl hn)).mono ?_
  rintro e w1 ⟨rfl, rfl⟩
  go_wp2_with fail
  go_loopg [16] ls.length (fun q i wr => ∃ k : Nat, q = ls.length - k ∧ k ≤ ls.length ∧ i = .int .i64 k ∧ wr = w)
  case atStart => exact ⟨0, rfl, by omega, rfl, rfl⟩
  case round =>
    obtain ⟨k, rfl, hk, rfl, rfl⟩ := hrel
    by_cases hlt : k < ls.length
    · obtain ⟨b, off, q, qc, rfl, c0, -⟩ := H.out.elem hlt
      have A := Lib.hid (adds_nil (.slice q ls[k].length qc) wr)
      go_wp2_with fail
      refine A.out.mono ?_
      rintro e w4 ⟨rfl, rfl⟩
      go_wp2_with fail
      go_roundg (ls.length - (k + 1))
      case measure => omega
      case rel => exact ⟨k + 1, rfl, by omega, by go_num, rfl⟩
    · obtain rfl : k = ls.length := by omega
      have HC := Lib.hid (hits_nil wr)
      go_wp2_with fail
      refine HC.out.mono ?_
      rintro e w9 ⟨v9, rs9, rfl, ho9, hh9, hb9⟩
      have N9 := Lib.hid (HitsF.of_own (F := fun k => wr.heap.size ≤ k ∧ k < w9.heap.size) ho9 (fun b hb => ho9.lt b hb) hh9.rows)
      have B9 := Lib.hid hb9
      clear ho9 hh9 hb9
      go_wp2_with fail
      go_ret
      exact ⟨_, rfl, N9.out, B9.out⟩

end Go.Proofs.YtfmlhdikagogcaaDoor

namespace Go.Proofs.YtfmlhdikagogcaaDoor
open Go.RowKit
set_option maxRecDepth 20000

theorem rowLs : RowTy Tryd.prog 22 35 1 24 (.slice none 0 0) := ⟨Tryd.underlying22, by kernel_rfl, rfl, by decide⟩

theorem told_look {w : World} {R : Nat → Prop} {L : List (Int × Value)} {t : List (Int × List Hz)} (h : ToldF w R L t) (p : Int) : ∃ q c, (getK L p).getD (.slice none 0 0) = .slice q (toldOf t p).length c ∧ HitsF w R (.slice q (toldOf t p).length c) (toldOf t p) := by
  rcases told_get h p with ⟨h1, h2⟩ | ⟨-, v, x, h2, -, -, h5, h6⟩
  · have : t.find? (fun x => x.1 == p) = none := by
      rw [List.find?_eq_none]
      intro x hx
      have := List.any_eq_false.1 h1 x hx
      simpa using this
    unfold toldOf
    rw [h2, this]
    exact ⟨none, 0, rfl, HitsF.nil _ _⟩
  · unfold toldOf
    rw [h2, h5]
    obtain ⟨q, c, rfl, -⟩ := id h6
    exact ⟨q, c, rfl, h6⟩

theorem ListsF.of_own {w w' : World} {F G : Nat → Prop} {B e n : Nat} {v : Value} {us : List Value} {ls : List (List Hz)} (ho : w'.ownsRow B e 1 v n us) (hl : us.length = ls.length) (hv : ∀ b, v.ownBlock = some b → G b) (hF : ∀ k, F k → G k) (hb : Below w.heap.size w w')
    (h : ∀ i (h1 : i < us.length) (h2 : i < ls.length), HitsF w F us[i] ls[i]) : ListsF w' G v ls := by
  have hn : n = ls.length := by have := ho.1; omega
  subst hn
  obtain ⟨q, m, c, rfl⟩ := own_form ho
  obtain ⟨h1, ⟨h2, h3⟩ | ⟨g, cap, cur, hvv, hbb, hh, hn, hc, hs, ht⟩⟩ := id ho
  · cases h2
    exact ⟨Option.none, 0, by rw [h3], by omega, by omega, fun _ => rfl, fun i hi => absurd hi (by omega)⟩
  · obtain ⟨rfl, rfl, rfl⟩ := Value.slice.inj hvv
    refine ⟨_, _, rfl, hn, hc, fun e => (by cases e), fun i hi => ?_⟩
    have hiu : i < us.length := by omega
    obtain ⟨b, e1, -, c0⟩ := row_elem ho (i := i) hiu
    cases e1
    exact ⟨g, 0, us[i], rfl, hv g rfl, by simpa using c0, ((h i hiu hi).below hb).mono hF⟩

theorem drop_told (g : Gz) (k : Nat) (q : Qs) (t : List (Int × List Hz)) : dropZ (toldZ g k q t) k = dropZ g k := by
  unfold dropZ toldZ
  simp only [List.eraseIdx_set_eq]

/-- what was told is small -/
theorem told_small {g : Gz} (hok : GOk g) {k : Nat} (hk : k < g.l.length) {frm : Int} {n : Nt} (ho : oddB frm n 10 = false) : ∀ p, (toldOf (g.l[k].told ++ [(frm, n.hits)]) p).length ≤ 1000000 ∧ ∀ h ∈ toldOf (g.l[k].told ++ [(frm, n.hits)]) p, h.vec.length ≤ 1000000 := by
  have hs := right_seen (n := n) (by unfold oddB at ho; simp at ho; exact ho.1.1.2) (by unfold oddB at ho; simp at ho; exact ho.1.1.1)
  have hall : ∀ x ∈ g.l[k].told ++ [(frm, n.hits)], x.2.length ≤ 1000000 ∧ ∀ h ∈ x.2, h.vec.length ≤ 1000000 := by
    intro x hx
    rcases List.mem_append.1 hx with hx | hx
    · have := (hok.each _ (List.getElem_mem hk)).2.2.2.2.2 x hx
      exact ⟨by omega, fun h hh => by have := this.2 h hh; omega⟩
    · rw [List.mem_singleton.1 hx]
      refine ⟨by have := hs.1; show n.hits.length ≤ _; omega, fun h hh => ?_⟩
      have := hs.2.1 h hh
      unfold badHit rightB at this
      simp at this
      omega
  intro p
  unfold toldOf
  cases e : (g.l[k].told ++ [(frm, n.hits)]).find? (fun x => x.1 == p) with
  | none => exact ⟨by simp, fun h hh => absurd hh (by simp)⟩
  | some x => exact hall x (List.mem_of_find?_eq_some e)

end Go.Proofs.YtfmlhdikagogcaaDoor

namespace Go.Proofs.YtfmlhdikagogcaaDoor
open Go.RowKit
set_option maxRecDepth 20000

theorem flatU_set {α : Type} {f : α → List Value} {s : Nat} (hf : ∀ r, (f r).length = s) (rs : List α) (k : Nat) (hk : k < rs.length) (j : Nat) (hj : j < s) (u : Value) (r' : α) (hr : f r' = (f rs[k]).set j u) : (flatU f rs).set (k * s + j) u = flatU f (rs.set k r') := by
  induction rs generalizing k with
  | nil => simp at hk
  | cons r rs ih =>
    cases k with
    | zero =>
      simp only [flatU, Nat.zero_mul, Nat.zero_add, List.set_cons_zero]
      rw [List.set_append_left _ _ (by rw [hf]; exact hj), hr]
      rfl
    | succ k =>
      simp only [flatU, List.set_cons_succ]
      rw [List.set_append_right _ _ (by rw [hf, Nat.succ_mul]; omega), hf, show (k + 1) * s + j - s = k * s + j by rw [Nat.succ_mul]; omega]
      congr 1
      exact ih k (by simpa using hk) (by simpa using hr)

theorem hasTold_app (t : List (Int × List Hz)) (f : Int) (h : List Hz) (p : Int) : hasTold (t ++ [(f, h)]) p = (hasTold t p || f == p) := by
  simp [hasTold, List.any_append]

theorem toldOf_none {t : List (Int × List Hz)} {p : Int} (h : hasTold t p = false) : toldOf t p = [] := by
  have : t.find? (fun x => x.1 == p) = none := by
    rw [List.find?_eq_none]
    intro x hx hp
    have : hasTold t p = true := List.any_eq_true.2 ⟨x, hx, hp⟩
    rw [h] at this; cases this
  unfold toldOf
  rw [this]

theorem toldOf_app_yes {t : List (Int × List Hz)} {f : Int} {h : List Hz} {p : Int} (ht : hasTold t p = true) : toldOf (t ++ [(f, h)]) p = toldOf t p := by
  unfold toldOf
  rw [List.find?_append]
  obtain ⟨x, hx, hp⟩ := List.any_eq_true.1 ht
  cases hf : t.find? (fun x => x.1 == p) with
  | some y => rfl
  | none => rw [List.find?_eq_none] at hf; exact absurd hp (hf x hx)

theorem toldOf_app_no {t : List (Int × List Hz)} {f : Int} {h : List Hz} {p : Int} (ht : hasTold t p = false) : toldOf (t ++ [(f, h)]) p = if f = p then h else [] := by
  unfold toldOf
  have hn : t.find? (fun x => x.1 == p) = none := by
    rw [List.find?_eq_none]
    intro x hx hp
    have : hasTold t p = true := List.any_eq_true.2 ⟨x, hx, hp⟩
    rw [ht] at this; cases this
  rw [List.find?_append, hn]
  by_cases hfp : f = p
  · rw [if_pos hfp]; simp [hfp]
  · rw [if_neg hfp]; simp [hfp]

/-- a part hears -/
theorem part_hears {t : List (Int × List Hz)} {f : Int} {h : List Hz} {p : Int} (hp : p = f) (ht : hasTold t p = false) : hasTold (t ++ [(f, h)]) p = true ∧ toldOf (t ++ [(f, h)]) p = h := by
  rw [hasTold_app, toldOf_app_no ht, if_pos hp.symm, hp]
  simp

theorem part_deaf {t : List (Int × List Hz)} {f : Int} {h : List Hz} {p : Int} (hp : ¬ (p = f ∧ hasTold t p = false)) : hasTold (t ++ [(f, h)]) p = hasTold t p ∧ toldOf (t ++ [(f, h)]) p = toldOf t p := by
  cases ht : hasTold t p
  · have hne : ¬ f = p := fun e => hp ⟨e.symm, ht⟩
    rw [hasTold_app, toldOf_app_no ht, if_neg hne, ht, toldOf_none ht]
    simp [hne]
  · rw [hasTold_app, toldOf_app_yes ht, ht]
    simp

/-- has one of the parts heard? -/
def hitB (q : Qs) (f : Int) (j : Nat) : Bool := (q.parts.take j).any fun p => p == f && !hasTold q.told p

theorem hitB_succ (q : Qs) (f : Int) (j : Nat) (hj : j < q.parts.length) : hitB q f (j + 1) = (hitB q f j || (q.parts[j] == f && !hasTold q.told q.parts[j])) := by
  unfold hitB
  rw [List.take_succ_eq_append_getElem hj, List.any_append]
  simp

theorem hitB_all (q : Qs) (f : Int) : hitB q f q.parts.length = !(hasTold q.told f || !(q.parts.any fun y => decide (f = y))) := by
  unfold hitB
  rw [List.take_length]
  cases ht : hasTold q.told f
  · simp only [Bool.false_or, Bool.not_not]
    congr 1
    funext p
    by_cases hp : p = f
    · subst hp; simp [ht]
    · have : ¬ f = p := fun e => hp e.symm
      simp [hp, this]
  · simp only [Bool.true_or, Bool.not_true]
    rw [List.any_eq_false]
    intro p _ hp
    simp only [Bool.and_eq_true, beq_iff_eq, Bool.not_eq_true'] at hp
    rw [hp.1, ht] at hp
    cases hp.2

/-- how many have not told -/
def leftN (q : Qs) (t : List (Int × List Hz)) (j : Nat) : Nat := ((q.parts.take j).filter fun p => !hasTold t p).length

theorem leftN_succ (q : Qs) (t : List (Int × List Hz)) (j : Nat) (hj : j < q.parts.length) : leftN q t (j + 1) = leftN q t j + (if hasTold t q.parts[j] then 0 else 1) := by
  unfold leftN
  rw [List.take_succ_eq_append_getElem hj, List.filter_append, List.length_append]
  cases h : hasTold t q.parts[j] <;> simp [h]

theorem leftN_le (q : Qs) (t : List (Int × List Hz)) (j : Nat) : leftN q t j ≤ j := by
  unfold leftN
  exact Nat.le_trans (List.length_filter_le _ _) (by rw [List.length_take]; exact Nat.min_le_left _ _)

/-- who is asked, and who told, are each themselves -/
structure QOk (q : Qs) : Prop where
  parts : q.parts.Nodup
  keys : (q.told.map (·.1)).Nodup
  from_ : ∀ x ∈ q.told, x.1 ∈ q.parts

theorem told_count (ps : List Int) (hp : ps.Nodup) : ∀ t : List (Int × List Hz), (t.map (·.1)).Nodup → (∀ x ∈ t, x.1 ∈ ps) → (ps.filter fun p => !hasTold t p).length + t.length = ps.length := by
  intro t ht hs
  have h1 : (ps.filter fun p => hasTold t p).Perm (t.map (·.1)) := by
    rw [List.perm_ext_iff_of_nodup (hp.filter _) ht]
    intro a
    rw [List.mem_filter, List.mem_map]
    constructor
    · rintro ⟨_, h⟩
      obtain ⟨x, hx, he⟩ := List.any_eq_true.1 h
      exact ⟨x, hx, by simpa using he⟩
    · rintro ⟨x, hx, rfl⟩
      exact ⟨hs x hx, List.any_eq_true.2 ⟨x, hx, by simp⟩⟩
  have h2 := h1.length_eq
  rw [List.length_map] at h2
  have h3 : (ps.filter fun p => hasTold t p).length + (ps.filter fun p => !hasTold t p).length = ps.length := by
    clear h1 h2 ht hs hp
    induction ps with
    | nil => rfl
    | cons p ps ih =>
      simp only [List.filter_cons]
      cases h : hasTold t p
      · simp only [Bool.false_eq_true, if_false, Bool.not_false, if_true, List.length_cons]; omega
      · simp only [if_true, Bool.not_true, Bool.false_eq_true, if_false, List.length_cons]; omega
  omega

theorem QOk.told {q : Qs} (h : QOk q) {f : Int} {hs : List Hz} (hf : hasTold q.told f = false) (hm : f ∈ q.parts) : QOk {q with told := q.told ++ [(f, hs)]} := by
  refine ⟨h.parts, ?_, fun x hx => ?_⟩
  · show ((q.told ++ [(f, hs)]).map (·.1)).Nodup
    rw [List.map_append, List.nodup_append]
    refine ⟨h.keys, by simp, fun a ha b hb => ?_⟩
    simp only [List.map_cons, List.map_nil, List.mem_singleton] at hb
    subst hb
    rintro rfl
    obtain ⟨x, hx, he⟩ := List.mem_map.1 ha
    have : hasTold q.told a = true := List.any_eq_true.2 ⟨x, hx, by simpa using he⟩
    rw [hf] at this; cases this
  · rcases List.mem_append.1 hx with hx | hx
    · exact h.from_ x hx
    · rw [List.mem_singleton.1 hx]; exact hm

/-- are there some left? -/
theorem left_more {q : Qs} (h : QOk q) {f : Int} {hs : List Hz} (hf : hasTold q.told f = false) (hm : f ∈ q.parts) : 0 < leftN q (q.told ++ [(f, hs)]) q.parts.length ↔ q.told.length + 1 < q.parts.length := by
  have h1 := (h.told (hs := hs) hf hm)
  have h2 := told_count q.parts h.parts (q.told ++ [(f, hs)]) h1.keys h1.from_
  unfold leftN
  rw [List.take_length]
  simp only [List.length_append, List.length_cons, List.length_nil] at h2
  omega

/-- what all that was told is like -/
theorem told_few {g : Gz} {f : Int} (hok : GOk g) {k : Nat} (hk : k < g.l.length) {n : Nt} (hr : rightN n = true) (hkd : n.kind = 10) : ∀ p, (toldOf (g.l[k].told ++ [(f, n.hits)]) p).length ≤ 16 ∧ ∀ h ∈ toldOf (g.l[k].told ++ [(f, n.hits)]) p, h.vec.length ≤ 8 := by
  have hs := right_seen hr hkd
  have hall : ∀ x ∈ g.l[k].told ++ [(f, n.hits)], x.2.length ≤ 16 ∧ ∀ h ∈ x.2, h.vec.length ≤ 8 := by
    intro x hx
    rcases List.mem_append.1 hx with hx | hx
    · exact (hok.each _ (List.getElem_mem hk)).2.2.2.2.2 x hx
    · rw [List.mem_singleton.1 hx]
      refine ⟨hs.1, fun h hh => ?_⟩
      have hb := hs.2.1 h hh
      unfold badHit rightB at hb
      simp at hb
      omega
  intro p
  unfold toldOf
  cases hf : (g.l[k].told ++ [(f, n.hits)]).find? (fun x => x.1 == p) with
  | some y => exact hall y (List.mem_of_find?_eq_some hf)
  | none => exact ⟨Nat.zero_le _, fun h hh => absurd hh (by simp)⟩

theorem hearAt_deaf {g : Gz} {k : Nat} {q : Qs} {f : Int} {n : Nt} (h : hitB q f q.parts.length = false) : hearAt g k q f n = ([], g) := by
  rw [hitB_all, Bool.not_eq_false'] at h
  unfold hearAt
  rw [h, if_pos rfl]

theorem hearAt_code {g : Gz} {k : Nat} {q : Qs} {f : Int} {n : Nt} (h : hitB q f q.parts.length = true) (hc : n.code ≠ 0) : hearAt g k q f n = ([(q.who, resN q.note.stamp q.query n.code [])], dropZ g k) := by
  rw [hitB_all, Bool.not_eq_true'] at h
  unfold hearAt
  rw [h, if_neg (by simp), if_pos hc]

theorem hit_parts {q : Qs} {f : Int} (h : hitB q f q.parts.length = true) : hasTold q.told f = false ∧ f ∈ q.parts := by
  rw [hitB_all, Bool.not_eq_true', Bool.or_eq_false_iff, Bool.not_eq_false'] at h
  obtain ⟨h1, h2⟩ := h
  obtain ⟨x, hx, he⟩ := List.any_eq_true.1 h2
  exact ⟨h1, by rw [of_decide_eq_true he]; exact hx⟩

theorem hearAt_more {g : Gz} {k : Nat} {q : Qs} {f : Int} {n : Nt} (hq : QOk q) (h : hitB q f q.parts.length = true) (hc : n.code = 0) (hl : 0 < leftN q (q.told ++ [(f, n.hits)]) q.parts.length) : hearAt g k q f n = ([], toldZ g k q (q.told ++ [(f, n.hits)])) := by
  have hp := hit_parts h
  rw [hitB_all, Bool.not_eq_true'] at h
  unfold hearAt
  rw [h, if_neg (by simp), if_neg (by simpa using hc), if_pos ((left_more hq hp.1 hp.2).1 hl)]

theorem hearAt_last {g : Gz} {k : Nat} {q : Qs} {f : Int} {n : Nt} (hq : QOk q) (h : hitB q f q.parts.length = true) (hc : n.code = 0) (hl : ¬ 0 < leftN q (q.told ++ [(f, n.hits)]) q.parts.length) : hearAt g k q f n = ([(q.who, resN q.note.stamp q.query 0 (answerZ q (q.told ++ [(f, n.hits)])))], dropZ g k) := by
  have hp := hit_parts h
  rw [hitB_all, Bool.not_eq_true'] at h
  unfold hearAt
  rw [h, if_neg (by simp), if_neg (by simpa using hc), if_neg (fun h' => hl ((left_more hq hp.1 hp.2).2 h'))]

theorem hearZ_odd {g : Gz} {frm : Int} {n : Nt} (h : oddB frm n 10 = true) : hearZ g frm n = ([], g) := by unfold hearZ; rw [h, if_pos rfl]

/-- a part of a question hears: its row -/
theorem RefG.hears {w w5 : World} {c B k n : Nat} {F : Nat → Prop} {g : Gz} {xs : List (Qs × Dq)} {v' pv : Value} {t : List (Int × List Hz)} {gb : Nat} (hxs : xs.map (·.1) = g.l) (hlow : ∀ k, F k → k < w.heap.size ∧ k ≠ c) (hcs : c < w.heap.size) (hD : ∀ x ∈ xs, DqAt w F x.1 x.2)
    (hm : Mod (fun k => k = c) w w5) (hc : w5.heap[c]? = some (.cells #[.int .i64 g.shards, .int .i64 g.dim, .int .u64 g.last, v'] 68 (0, 0))) (hB : w.heap.size ≤ B) (hk : k < xs.length)
    {G : Nat → Prop} (hp : PartsF w5 G pv (partsOf {xs[k].1 with told := t})) (hG : ∀ j, G j → Plus F w w5 j ∧ j ≠ gb) (hg : v'.ownBlock = some gb) (hn : n = xs.length)
    (ho : w5.ownsRow B 108 19 v' n (flatU dqCells xs)) :
    RefG (w5.setCell ⟨gb, k * 19 + 18, none⟩ pv) c (Plus F w (w5.setCell ⟨gb, k * 19 + 18, none⟩ pv)) (toldZ g k xs[k].1 t) ∧ Mod (fun k => k = c) w (w5.setCell ⟨gb, k * 19 + 18, none⟩ pv) := by
  have hgb := ho.lt gb hg
  have hm' : Mod (fun k => k = c) w (w5.setCell ⟨gb, k * 19 + 18, none⟩ pv) := Mod.setCell (F := fun k => k = c) hm (p := ⟨gb, k * 19 + 18, none⟩) (.inr (by show _ ≤ gb; omega)) _
  have hsz : (w5.setCell ⟨gb, k * 19 + 18, none⟩ pv).heap.size = w5.heap.size := by simp [World.setCell]
  have hset := own_setCell ho hg (o := k * 19 + 18) (by subst hn; omega) pv
  rw [flatU_set dqCells_length xs k hk 18 (by decide) pv ({xs[k].1 with told := t}, {xs[k].2 with pv := pv}) rfl] at hset
  have hcgb : c ≠ gb := by omega
  refine ⟨RefG.rowed hlow hm' hcs (set_other hc hcgb _ _) hset hB (fun x hx => ?_) ?_, hm'⟩
  · have old : ∀ y ∈ xs, DqAt (w5.setCell ⟨gb, k * 19 + 18, none⟩ pv) (Plus F w (w5.setCell ⟨gb, k * 19 + 18, none⟩ pv)) y.1 y.2 := fun y hy => ((hD y hy).agree (Agree.of_mod hm' (fun j hj => (hlow j hj).1) (fun j hj => (hlow j hj).2))).mono fun j hj => .inl hj
    rcases List.mem_or_eq_of_mem_set hx with hx | rfl
    · exact old x hx
    · exact ⟨(old xs[k] (List.getElem_mem hk)).note, (hp.agree (w' := w5.setCell ⟨gb, k * 19 + 18, none⟩ pv) fun j hj => Below.heap_setCell _ _ _ _ (hG j hj).2).mono fun j hj => (hG j hj).1.imp id (fun h => ⟨h.1, by rw [hsz]; exact h.2⟩)⟩
  · simp only [List.map_set, hxs, toldZ]

theorem drop_told' (g : Gz) (k : Nat) (q : Qs) (t : List (Int × List Hz)) : dropZ (toldZ g k q t) k = dropZ g k := by
  unfold dropZ toldZ
  simp only [List.eraseIdx_set_eq]

end Go.Proofs.YtfmlhdikagogcaaDoor
