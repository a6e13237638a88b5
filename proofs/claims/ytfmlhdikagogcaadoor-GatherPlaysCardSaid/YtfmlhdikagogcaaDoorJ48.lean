/-
  gather's law: GatherPlays: the walk.
-/
import Derived.Test.YtfmlhdikagogcaaDoorJ46
import Derived.Test.YtfmlhdikagogcaaDoorJ47
import Derived.Deep.DeepCutAuto
namespace Go.Proofs.YtfmlhdikagogcaaDoor
open Go.RowKit
set_option maxRecDepth 20000

/-- may there be a gather of so many shards and numbers? -/
def mayB (sh dim : Int) : Bool := decide (1 ≤ sh) && decide (sh ≤ 4) && decide (1 ≤ dim) && decide (dim ≤ 8)

theorem mayB_iff (sh dim : Int) : mayB sh dim = true ↔ 1 ≤ sh ∧ sh ≤ 4 ∧ 1 ≤ dim ∧ dim ≤ 8 := by
  unfold mayB
  simp [and_assoc]

theorem GAt.lower {w : World} {B B' c : Nat} {F R : Nat → Prop} {g : Gz} (h : GAt w B c F R g) (hb : B' ≤ B) : GAt w B' c F R g := by
  obtain ⟨lv, Q, h⟩ := h
  exact ⟨lv, Q, h.obj, own_mono h.row hb, h.len, h.each, h.bs, h.mbs, h.lvF, h.mbF, h.here, fun k hk => ⟨Nat.le_trans hb (h.low k hk).1, (h.low k hk).2⟩, h.apart⟩

theorem newP (sh dim base : Int) (w : World) :
    Calls Tryd.prog 10 #[.int .i64 sh, .int .i64 dim, .int .u64 base] w fun e w' => ∃ gv ec, e = .returned (.tuple #[gv, .int .i64 ec]) ∧ Below w.heap.size w w' ∧ ((mayB sh dim = true ∧ ec = 0 ∧ ∃ c, gv = .pointer (some ⟨c, 0, none⟩) ∧ GAt w' w.heap.size c (fun k => k = c) (fun _ => False) ⟨sh, dim, base, []⟩) ∨ (mayB sh dim = false ∧ ec = 1 ∧ gv = .pointer none)) := by
  by_cases h : 1 ≤ sh ∧ sh ≤ 4 ∧ 1 ≤ dim ∧ dim ≤ 8
  · exact (newG sh dim base w h).mono fun e w' ⟨c, he, hG, hc, hb⟩ => ⟨_, _, he, hb, .inl ⟨(mayB_iff _ _).2 h, rfl, c, rfl, hG⟩⟩
  · exact (newG_none sh dim base w h).mono fun e w' ⟨he, hw⟩ => ⟨_, _, he, hw ▸ Below.refl _ _, .inr ⟨by rw [← Bool.not_eq_true]; exact fun h' => h ((mayB_iff _ _).1 h'), rfl, rfl⟩⟩

theorem ok_start {sh dim base : Int} (h : mayB sh dim = true) : GOk ⟨sh, dim, base, []⟩ ∧ DOk ⟨sh, dim, base, []⟩ := by
  obtain ⟨h1, h2, -⟩ := (mayB_iff _ _).1 h
  exact ⟨⟨by simp, ⟨h1, h2⟩, fun q hq => absurd hq (by simp)⟩, fun q hq => absurd hq (by simp)⟩

/-- it begins -/
theorem PSt.begin {W0 w w1 w2 : World} {c : Nat} {sh dim base : Int} (h : GAt w1 w.heap.size c (fun k => k = c) (fun _ => False) ⟨sh, dim, base, []⟩) (hb0 : Below W0.heap.size W0 w) (hb1 : Below w.heap.size w w1) (hw : w2 = w1.alloc (.cells #[.int .i64 sh, .int .i64 dim, .int .u64 base, .slice none 0 0] 68)) :
    PSt W0 (.pointer (some ⟨c, 0, none⟩)) (.pointer (some ⟨w1.heap.size, 0, none⟩)) (fun _ => False) (some (⟨sh, dim, base, []⟩, ⟨sh, dim, base, []⟩)) w2 := by
  have hb2 : Below w1.heap.size w1 w2 := by rw [hw]; exact (Below.refl _ _).alloc (Nat.le_refl _) _
  have hc := h.low c rfl
  have hs0 := hb0.size
  have hs1 := hb1.size
  refine ⟨c, w1.heap.size, fun k => k = c, fun _ => False, fun _ => False, rfl, rfl, (h.below hb2).lower hs0, ⟨_, [], by rw [hw]; exact heap_alloc_new _ _, DocF.nil _ _, rfl, fun _ h => h.elim⟩, fun k (hk : k = c) => ⟨by omega, fun h => h⟩, fun h => h, by omega, fun _ h => h.elim, (hb0.trans (hb1.mono hs0)).trans (hb2.mono (Nat.le_trans hs0 hs1))⟩

theorem op_cell (o : Og) (vp vo vv vh : Value) (j : Nat) (hj : j < 16) : (o.cells vp vo vv vh)[2 + j]? = (o.note.cells vp vo vv vh).toList[j]? := by
  have : j = 0 ∨ j = 1 ∨ j = 2 ∨ j = 3 ∨ j = 4 ∨ j = 5 ∨ j = 6 ∨ j = 7 ∨ j = 8 ∨ j = 9 ∨ j = 10 ∨ j = 11 ∨ j = 12 ∨ j = 13 ∨ j = 14 ∨ j = 15 := by omega
  rcases this with rfl | rfl | rfl | rfl | rfl | rfl | rfl | rfl | rfl | rfl | rfl | rfl | rfl | rfl | rfl | rfl <;> rfl

theorem op_ones {w : World} {F : Nat → Prop} (o : Og) {vp vo vv vh : Value} (h : NoteV w F o.note vp vo vv vh) : (o.cells vp vo vv vh).toArray.all (·.oneCell') = true := by
  obtain ⟨p0, q0, rfl, -, -, -, -⟩ := h.parts.slice
  obtain ⟨p1, q1, rfl, -, -, -, -⟩ := id h.ops
  obtain ⟨p2, q2, rfl, -, -, -, -⟩ := h.vec.slice
  obtain ⟨p3, q3, rfl, -, -, -, -⟩ := id h.hits
  simp [Og.cells, Nt.cells, Value.oneCell']

def JoinP (w : World) (gv xv : Value) (wc : World) : Prop := ∃ op, PSt w gv xv (fun _ => False) op wc ∧ POk op

set_option maxHeartbeats 8000000 in
theorem gatherPlays (nn : Bool) (sh dim base : Int) (hbase : 0 ≤ base ∧ base ≤ 18446744073709551615) (l : List Og) (v : Value) (w : World) (hv : ScriptG w v l) (hf : ∀ o ∈ l, o.Fits) (hT : Tab w) :
    Calls Tryd.prog 8 #[.bool nn, .int .i64 sh, .int .i64 dim, .int .u64 base, v] w fun e w' => e = .returned (.bool true) ∧ Below w.heap.size w w' := by
  have TT := Lib.hid hT
  have AW := Lib.hid (awake w hT)
  obtain ⟨vp, vc, rfl, hvcap, hvbig, -, -⟩ := id hv
  have hl1 : l.length ≤ 9223372036854775807 := by omega
  have HV := Lib.hid (And.intro hv hf)
  clear hT hv hf hvcap hvbig
  go_enter Tryd.func8, Tryd.ntmps8
  go_wp2_with fail
  with_reducible refine AW.out.mono ?_
  rintro e w0 ⟨rfl, hb0⟩
  have B0 := Lib.hid hb0
  clear hb0 AW
  obtain ⟨bs, hbs⟩ : ∃ bs, bs = base % 4611686018427387904 := ⟨_, rfl⟩
  have hbsw : IntKind.u64.wrap (base % 4611686018427387904) = base % 4611686018427387904 := by simp only [IntKind.wrap, IntKind.bits, IntKind.signed]; simp; omega
  go_upto_region 4 with fail
  rw [← hbs]
  clear hbsw hbs hbase
  go_wp2_with fail
  with_reducible refine (newP sh dim bs w0).mono ?_
  rintro e w1 ⟨gv, ec, rfl, hb1, hN⟩
  have B1 := Lib.hid hb1
  have N1 := Lib.hid hN
  clear hb1 hN
  go_upto_region 5 with fail
  go_cut [13] (fun s13 wc => s13 = .bool (mayB sh dim) ∧ w1 = wc)
  case first =>
    --<<
    by_cases h1 : 1 ≤ sh
    · by_cases h2 : sh ≤ 4
      · by_cases h3 : 1 ≤ dim
        · by_cases h4 : dim ≤ 8
          · go_wp2_with fail
            go_meet
            exact ⟨by first | (simp [mayB, h1, h2, h3, h4]; done) | (simp [mayB, h1, h2, h3, h4]; omega), rfl⟩
          · go_wp2_with fail
            go_meet
            exact ⟨by first | (simp [mayB, h1, h2, h3, h4]; done) | (simp [mayB, h1, h2, h3, h4]; omega), rfl⟩
        · go_wp2_with fail
          go_meet
          exact ⟨by first | (simp [mayB, h1, h2, h3]; done) | (simp [mayB, h1, h2, h3]; omega), rfl⟩
      · go_wp2_with fail
        go_meet
        exact ⟨by first | (simp [mayB, h1, h2]; done) | (simp [mayB, h1, h2]; omega), rfl⟩
    · go_wp2_with fail
      go_meet
      exact ⟨by first | (simp [mayB, h1]; done) | (simp [mayB, h1]; omega), rfl⟩
    -->>
  case rest =>
  obtain ⟨rfl, rfl⟩ := hcut
  obtain ⟨mb, hmb⟩ : ∃ mb, mb = mayB sh dim := ⟨_, rfl⟩
  rw [← hmb]
  have HMB := Lib.hid hmb
  clear hmb
  go_upto_region 6 with fail
  go_cut [67] (fun s67 wc => s67 = .bool false ∧ w1 = wc)
  case first =>
    rcases N1.out with ⟨e1, rfl, c, rfl, -⟩ | ⟨e1, rfl, rfl⟩
    · obtain rfl : mb = true := HMB.out.trans e1
      go_wp2_with fail
      go_meet
      exact ⟨rfl, rfl⟩
    · obtain rfl : mb = false := HMB.out.trans e1
      go_wp2_with fail
      go_meet
      exact ⟨rfl, rfl⟩
  case rest =>
  obtain ⟨rfl, rfl⟩ := hcut
  go_upto_region 9 with fail
  obtain ⟨w2, hw2⟩ : ∃ w2, w2 = w1.alloc (.cells #[.int .i64 sh, .int .i64 dim, .int .u64 bs, .slice none 0 0] 68) := ⟨_, rfl⟩
  rw [← hw2]
  have HW2 := Lib.hid hw2
  have B2 := Lib.hid (show Below w.heap.size w w2 by rw [hw2]; exact (B0.out.trans (B1.out.mono B0.out.size)).alloc (Nat.le_trans B0.out.size B1.out.size) _)
  clear hw2
  go_cut [77] (fun s77 wc => s77 = .bool (nn || !mb) ∧ w2 = wc)
  case first =>
    cases nn
    · go_wp2_with fail
      go_meet
      exact ⟨rfl, rfl⟩
    · go_wp2_with fail
      go_meet
      exact ⟨rfl, rfl⟩
  case rest =>
  obtain ⟨rfl, rfl⟩ := hcut
  go_upto_if 77 with fail
  go_cut [11, 14] (fun s11 s14 wc => JoinP w s11 s14 wc)
  case first =>
    --<<
    rcases N1.out with ⟨e1, rfl, c, rfl, hG⟩ | ⟨e1, rfl, rfl⟩
    · obtain rfl : mb = true := HMB.out.trans e1
      have OKS := Lib.hid (ok_start (base := bs) e1)
      have BG := Lib.hid (PSt.begin hG B0.out B1.out HW2.out)
      clear hG
      cases nn
      · go_wp2_with fail
        go_meet
        exact ⟨_, BG.out, OKS.out.1, OKS.out.2, rfl⟩
      · go_wp2_with fail
        go_meet
        exact ⟨none, ⟨rfl, rfl, B2.out⟩, trivial⟩
    · obtain rfl : mb = false := HMB.out.trans e1
      cases nn
      · go_wp2_with fail
        go_meet
        exact ⟨none, ⟨rfl, rfl, B2.out⟩, trivial⟩
      · go_wp2_with fail
        go_meet
        exact ⟨none, ⟨rfl, rfl, B2.out⟩, trivial⟩
    -->>
  case rest =>
  obtain ⟨op0, hP0, hok0⟩ := hcut
  obtain ⟨ga, hga⟩ : ∃ ga, ga = u11 := ⟨_, rfl⟩
  obtain ⟨xa, hxa⟩ : ∃ xa, xa = u14 := ⟨_, rfl⟩
  rw [← hga, ← hxa] at hP0 ⊢
  have P0 := Lib.hid (And.intro hP0 hok0)
  clear hP0 hok0 hga hxa N1 HMB
  go_wp2_with fail
  go_loopg [80] l.length (fun q i wr => ∃ (k : Nat) (op : Option (Gz × Gz)), q = l.length - k ∧ k ≤ l.length ∧ i = .int .i64 k ∧ PSt w ga xa (fun _ => False) op wr ∧ POk op)
  case atStart => exact ⟨0, op0, rfl, by omega, rfl, P0.out.1, P0.out.2⟩
  case round =>
    obtain ⟨k, op, rfl, hk, rfl, hP, hok⟩ := hrel
    have ST := Lib.hid (And.intro hP hok)
    by_cases hlt : k < l.length
    rotate_left
    · obtain rfl : k = l.length := by omega
      clear hP hok
      go_wp2_with fail
      go_ret
      exact ⟨rfl, ST.out.1.since⟩
    obtain ⟨b, off, vp1, vo1, vv1, vh1, rfl, hc, hn⟩ := (HV.out.1.below hP.since).elem hlt
    have FT := Lib.hid (HV.out.2 _ (List.getElem_mem hlt))
    obtain ⟨CS, hCS⟩ : ∃ CS : List Value, CS = l[k].cells vp1 vo1 vv1 vh1 := ⟨_, rfl⟩
    obtain ⟨NC, hNC⟩ : ∃ NC : Array Value, NC = l[k].note.cells vp1 vo1 vv1 vh1 := ⟨_, rfl⟩
    have LEN : CS.length = 20 := by rw [hCS]; rfl
    have SZ : (Tryd.prog.info? 61).map (·.size) = some CS.length := by rw [LEN]; kernel_rfl
    have SZ' : (Tryd.prog.info? 61).map (·.size) = some CS.toArray.size := by rw [List.size_toArray, LEN]; kernel_rfl
    have RA : wr.rangeAt b (off + k * 20) CS := by rw [hCS]; exact hc
    have ONE : CS.toArray.all (·.oneCell') = true := by rw [hCS]; exact op_ones l[k] hn
    have hsz : (#[.int .u8 0, .int .i64 0, .int .u8 0, .int .u64 0, .int .u64 0, .int .u64 0, .int .u64 0, .int .u64 0, .int .u64 0, .int .u64 0, .int .i64 0, .int .i64 0, .int .i64 0, .int .i64 0, .slice none 0 0, .slice none 0 0, .slice none 0 0, .slice none 0 0, .int .u64 0, .int .u64 0] : Array Value).size = CS.toArray.size := by rw [show CS.toArray.size = 20 by rw [List.size_toArray, LEN]]; rfl
    obtain ⟨Wa, hWa⟩ : ∃ Wa, Wa = (wr.alloc (.cells #[.int .u8 0, .int .i64 0, .int .u8 0, .int .u64 0, .int .u64 0, .int .u64 0, .int .u64 0, .int .u64 0, .int .u64 0, .int .u64 0, .int .i64 0, .int .i64 0, .int .i64 0, .int .i64 0, .slice none 0 0, .slice none 0 0, .slice none 0 0, .slice none 0 0, .int .u64 0, .int .u64 0] 61)).setRow wr.heap.size CS.toArray := ⟨_, rfl⟩
    have ba : Below wr.heap.size wr Wa := by rw [hWa]; exact below_setRow ((Below.refl _ _).alloc (Nat.le_refl _) _) (Nat.le_refl _) _
    have ya : Wa.heap[wr.heap.size]? = some (.cells CS.toArray 61 (0, 0)) := by rw [hWa]; exact setRow_heap _ _ _ _ _ _ (heap_alloc_new _ _)
    have RB : Wa.rangeAt wr.heap.size 2 NC.toList := fun j u hj => by
      have hj16 : j < 16 := by
        have := (List.getElem?_eq_some_iff.1 hj).1
        rw [hNC] at this
        exact this
      rw [cells_get ya (2 + j), List.getElem?_toArray, hCS, ← hj, hNC]
      exact op_cell _ _ _ _ _ j hj16
    have FW := Lib.hid (show Calls Tryd.prog 19 #[.agg NC] Wa (NewNote Wa (fewN l[k].note)) from hNC ▸ refFew l[k].note _ _ _ _ _ Wa (hn.below ba))
    have x0 : Wa.cell? ⟨wr.heap.size, 0, none⟩ = some (.int .u8 l[k].act) := by rw [cells_get ya 0, List.getElem?_toArray, hCS]; rfl
    have x1 : Wa.cell? ⟨wr.heap.size, 1, none⟩ = some (.int .i64 l[k].frm) := by rw [cells_get ya 1, List.getElem?_toArray, hCS]; rfl
    have x18 : Wa.cell? ⟨wr.heap.size, 18, none⟩ = some (.int .u64 l[k].stamp) := by rw [cells_get ya 18, List.getElem?_toArray, hCS]; rfl
    have x19 : Wa.cell? ⟨wr.heap.size, 19, none⟩ = some (.int .u64 l[k].mark) := by rw [cells_get ya 19, List.getElem?_toArray, hCS]; rfl
    have HWA := Lib.hid (And.intro hWa ba)
    have HXA := Lib.hid (And.intro x0 (And.intro x1 (And.intro x18 x19)))
    obtain ⟨m, hm⟩ : ∃ m, m = fewN l[k].note := ⟨_, rfl⟩
    rw [← hm] at FW
    have MF := Lib.hid (show m.Fits ∧ fewN m = m ∧ (m.parts.length ≤ 6 ∧ m.ops.length ≤ 18 ∧ m.vec.length ≤ 10 ∧ m.hits.length ≤ 18) by rw [hm]; exact ⟨few_fits FT.out.note, few_idem _, few_len _⟩)
    have NSZ : (Tryd.prog.info? 53).map (·.size) = some NC.toList.length := by rw [hNC]; kernel_rfl
    clear hP hok hc hn hm hCS hNC ya ba hWa x0 x1 x18 x19
    go_upto_region 14 with (first | refine wpList_load_mid rfl 61 _ rfl b (off + k * 20) (by rfl) CS _ RA Tryd.underlying61 rfl SZ ?_ | refine wpList_store_row rfl 61 _ _ rfl wr.heap.size CS.toArray (by rfl) (by rfl) 61 #[.int .u8 0, .int .i64 0, .int .u8 0, .int .u64 0, .int .u64 0, .int .u64 0, .int .u64 0, .int .u64 0, .int .u64 0, .int .u64 0, .int .i64 0, .int .i64 0, .int .i64 0, .int .i64 0, .slice none 0 0, .slice none 0 0, .slice none 0 0, .slice none 0 0, .int .u64 0, .int .u64 0] (heap_alloc_new _ _) SZ' hsz ONE ?_)
    rw [← HWA.out.1]
    clear SZ SZ' RA ONE hsz
    by_cases h50 : k < 50
    rotate_left
    · have hkk' : (50 : Int) ≤ (k : Int) := by omega
      have PA := Lib.hid (ST.out.1.since.trans (HWA.out.2.mono ST.out.1.since.size))
      clear RB
      go_wp2_with fail
      go_ret
      exact ⟨rfl, PA.out⟩
    have hkk : ¬ 50 ≤ k := by omega
    have hkk' : ¬ (50 : Int) ≤ (k : Int) := by omega
    go_wp2_with (refine wpList_load_mid rfl 53 _ rfl wr.heap.size 2 (by rfl) NC.toList _ RB Tryd.underlying53 rfl NSZ ?_; simp only [Array.toArray_toList])
    with_reducible refine FW.out.mono ?_
    rintro e w5 ⟨vp5, vo5, vv5, vh5, rfl, hN5, hl5, ho5, hb5⟩
    obtain ⟨MC, hMC⟩ : ∃ MC : Array Value, MC = m.cells vp5 vo5 vv5 vh5 := ⟨_, rfl⟩
    rw [← hMC]
    have MSZ : (Tryd.prog.info? 53).map (·.size) = some MC.size := by rw [hMC]; kernel_rfl
    have MONE : MC.all (·.oneCell') = true := by rw [hMC]; exact hN5.one16
    have hmz : (#[.int .u8 0, .int .u64 0, .int .u64 0, .int .u64 0, .int .u64 0, .int .u64 0, .int .u64 0, .int .u64 0, .int .i64 0, .int .i64 0, .int .i64 0, .int .i64 0, .slice none 0 0, .slice none 0 0, .slice none 0 0, .slice none 0 0] : Array Value).size = MC.size := by rw [hMC]; rfl
    obtain ⟨W6, hW6⟩ : ∃ W6, W6 = (w5.alloc (.cells #[.int .u8 0, .int .u64 0, .int .u64 0, .int .u64 0, .int .u64 0, .int .u64 0, .int .u64 0, .int .u64 0, .int .i64 0, .int .i64 0, .int .i64 0, .int .i64 0, .slice none 0 0, .slice none 0 0, .slice none 0 0, .slice none 0 0] 53)).setRow w5.heap.size MC := ⟨_, rfl⟩
    have b6 : Below w5.heap.size w5 W6 := by rw [hW6]; exact below_setRow ((Below.refl _ _).alloc (Nat.le_refl _) _) (Nat.le_refl _) _
    have y6 : W6.heap[w5.heap.size]? = some (.cells MC 53 (0, 0)) := by rw [hW6]; exact setRow_heap _ _ _ _ _ _ (heap_alloc_new _ _)
    have EN := Lib.hid (show NoteM w5 (fun j => Wa.heap.size ≤ j ∧ j < w5.heap.size) m vp5 vo5 vv5 vh5 from ⟨⟨hN5.parts, hN5.ops.mono (fun _ h => ⟨h.1, h.2.1⟩), hN5.vec, hN5.hits.mono (fun _ h => ⟨h.1, h.2.1⟩)⟩, hl5.mono (fun _ h => ⟨h.1, h.2.1⟩), fun _ j e => ho5.lt j e⟩)
    have hB5 := Lib.hid hb5
    have FW2 := Lib.hid (show Calls Tryd.prog 19 #[.agg MC] W6 (NewNote W6 m) by
      have h := refFew m _ _ _ _ _ W6 (hN5.below b6)
      rwa [MF.out.2.1, ← hMC] at h)
    have HMC := Lib.hid hMC
    have HW6 := Lib.hid hW6
    have B6 := Lib.hid b6
    clear hN5 hl5 ho5 hb5 hMC hW6 b6 RB FW NSZ
    go_upto_region 16 with (refine wpList_store_row rfl 53 _ _ rfl w5.heap.size MC (by rfl) (by rfl) 53 #[.int .u8 0, .int .u64 0, .int .u64 0, .int .u64 0, .int .u64 0, .int .u64 0, .int .u64 0, .int .u64 0, .int .i64 0, .int .i64 0, .int .i64 0, .int .i64 0, .slice none 0 0, .slice none 0 0, .slice none 0 0, .slice none 0 0] (heap_alloc_new _ _) MSZ hmz MONE ?_)
    rw [← HW6.out]
    go_wp2_with (refine wpList_load_row rfl 53 _ rfl w5.heap.size (by rfl) 53 MC (0, 0) _ y6 Tryd.underlying53 rfl MSZ ?_)
    with_reducible refine FW2.out.mono ?_
    rintro e w7 ⟨vp7, vo7, vv7, vh7, rfl, hN7, hl7, ho7, hb7⟩
    obtain ⟨q7, n7, c7, rfl⟩ := own_form ho7
    obtain rfl : n7 = m.vec.length := own_len ho7
    obtain ⟨MD, hMD⟩ : ∃ MD : Array Value, MD = m.cells vp7 vo7 (.slice q7 m.vec.length c7) vh7 := ⟨_, rfl⟩
    rw [← hMD]
    have DSZ : (Tryd.prog.info? 37).map (·.size) = some MD.size := by rw [hMD]; kernel_rfl
    have DONE : MD.all (·.oneCell') = true := by rw [hMD]; exact hN7.one16
    have hdz : (#[.int .u8 0, .int .u64 0, .int .u64 0, .int .u64 0, .int .u64 0, .int .u64 0, .int .u64 0, .int .u64 0, .int .i64 0, .int .i64 0, .int .i64 0, .int .i64 0, .slice none 0 0, .slice none 0 0, .slice none 0 0, .slice none 0 0] : Array Value).size = MD.size := by rw [hMD]; rfl
    obtain ⟨W8, hW8⟩ : ∃ W8, W8 = (w7.alloc (.cells #[.int .u8 0, .int .u64 0, .int .u64 0, .int .u64 0, .int .u64 0, .int .u64 0, .int .u64 0, .int .u64 0, .int .i64 0, .int .i64 0, .int .i64 0, .int .i64 0, .slice none 0 0, .slice none 0 0, .slice none 0 0, .slice none 0 0] 37)).setRow w7.heap.size MD := ⟨_, rfl⟩
    have b8 : Below w7.heap.size w7 W8 := by rw [hW8]; exact below_setRow ((Below.refl _ _).alloc (Nat.le_refl _) _) (Nat.le_refl _) _
    have y8 : W8.heap[w7.heap.size]? = some (.cells MD 37 (0, 0)) := by rw [hW8]; exact setRow_heap _ _ _ _ _ _ (heap_alloc_new _ _)
    have bw5 := hB5.out
    have SIZES := Lib.hid (show wr.heap.size < Wa.heap.size ∧ Wa.heap.size ≤ w5.heap.size ∧ w5.heap.size < W6.heap.size ∧ W6.heap.size ≤ w7.heap.size ∧ w7.heap.size < W8.heap.size from ⟨lt_of_cell HXA.out.1, bw5.size, lt_block y6, hb7.size, lt_block y8⟩)
    have BA6 := (bw5.trans (B6.out.mono bw5.size))
    have BA7 := BA6.trans (hb7.mono BA6.size)
    have BA8 := Lib.hid (BA7.trans (b8.mono BA7.size))
    have Y8 := Lib.hid (And.intro ((b8.block _ (Nat.lt_of_lt_of_le (lt_block y6) hb7.size)).trans ((hb7.block _ (lt_block y6)).trans y6)) y8)
    have EM := Lib.hid (show NoteV W8 (fun j => W6.heap.size ≤ j ∧ j < w7.heap.size ∧ (Value.slice q7 m.vec.length c7).ownBlock ≠ some j) m vp7 vo7 (.slice q7 m.vec.length c7) vh7 ∧ W8.ownsRow W6.heap.size 21 1 (.slice q7 m.vec.length c7) m.vec.length (m.vec.map (Value.int .i32)) ∧ (∀ j, (Value.slice q7 m.vec.length c7).ownBlock = some j → W6.heap.size ≤ j ∧ j < w7.heap.size) from ⟨hN7.below b8, own_below ho7 b8, fun j e => ho7.lt j e⟩)
    have NL7 := Lib.hid (And.intro (hN7.parts.below b8) hl7)
    have EN8 := Lib.hid (show NoteM W8 (fun j => Wa.heap.size ≤ j ∧ j < w5.heap.size) m vp5 vo5 vv5 vh5 from EN.out.below (B6.out.trans ((hb7.trans (b8.mono hb7.size)).mono B6.out.size)))
    have HMD := Lib.hid hMD
    have HW8 := Lib.hid hW8
    clear hN7 hl7 ho7 hb7 hMD hW8 b8 y8 y6 bw5 BA6 BA7 MONE hmz FW2
    go_upto_region 17 with (refine wpList_store_row rfl 37 _ _ rfl w7.heap.size MD (by rfl) (by rfl) 37 #[.int .u8 0, .int .u64 0, .int .u64 0, .int .u64 0, .int .u64 0, .int .u64 0, .int .u64 0, .int .u64 0, .int .i64 0, .int .i64 0, .int .i64 0, .int .i64 0, .slice none 0 0, .slice none 0 0, .slice none 0 0, .slice none 0 0] (heap_alloc_new _ _) DSZ hdz DONE ?_)
    rw [← HW8.out]
    clear DONE hdz
    obtain ⟨st, hst⟩ : ∃ st, st = l[k].stamp % 1099511627776 := ⟨_, rfl⟩
    obtain ⟨mk, hmk⟩ : ∃ mk, mk = l[k].mark % 1099511627776 := ⟨_, rfl⟩
    have d18 := below_cells BA8.out HXA.out.2.2.1
    have d19 := below_cells BA8.out HXA.out.2.2.2
    simp only [Act.put]
    go_cut [19, 20] (fun s19 s20 wc => s19 = .int .u64 st ∧ s20 = .int .u64 mk ∧ Below W8.heap.size W8 wc)
    case first =>
      have f1 := FT.out.stamp.1
      have f2 := FT.out.mark.1
      go_quiet (fail)
      go_wp2_with fail
      go_meet
      exact ⟨by rw [hst], by rw [hmk], below_drewN (Below.refl _ _) _⟩
    case rest =>
    obtain ⟨rfl, rfl, hb9⟩ := hcut
    clear hst hmk d18 d19
    obtain ⟨Ws, rfl⟩ : ∃ Ws : World, Ws = wc := ⟨_, rfl⟩
    have B9 := Lib.hid hb9
    have BAS := Lib.hid (HWA.out.2.trans ((BA8.out.trans (hb9.mono BA8.out.size)).mono HWA.out.2.size))
    have SZS := Lib.hid (show w7.heap.size < Ws.heap.size from Nat.lt_of_lt_of_le SIZES.out.2.2.2.2 hb9.size)
    have YS := Lib.hid (show Ws.heap[w5.heap.size]? = some (.cells MC 53 (0, 0)) ∧ Ws.heap[w7.heap.size]? = some (.cells MD 37 (0, 0)) from ⟨(hb9.block _ (lt_block Y8.out.1)).trans Y8.out.1, (hb9.block _ (lt_block Y8.out.2)).trans Y8.out.2⟩)
    have d0 := below_cells (BA8.out.trans (hb9.mono BA8.out.size)) HXA.out.1
    have d1 := below_cells (BA8.out.trans (hb9.mono BA8.out.size)) HXA.out.2.1
    clear hb9
    have fa := FT.out.act.1
    have HKP := Lib.hid (show ∀ j, ((Value.slice q7 m.vec.length c7).ownBlock = some j ∨ (Wa.heap.size ≤ j ∧ j < w5.heap.size)) → wr.heap.size ≤ j ∧ j < Ws.heap.size from fun j hj => by
      have h1 := SIZES.out
      have h2 := SZS.out
      rcases hj with h | h
      · have := EM.out.2.2 j h; omega
      · omega)
    have HEK := Lib.hid (show ∀ j, (Wa.heap.size ≤ j ∧ j < w5.heap.size) → ¬ (Value.slice q7 m.vec.length c7).ownBlock = some j from fun j hj e => by
      have h1 := SIZES.out
      have := EM.out.2.2 j e; omega)
    have OKM := Lib.hid (show ∀ cl : Cl, ∀ p, cl.mid op = some p → GOk p.2 ∧ DOk p.2 from fun cl p hp => by
      cases op with
      | none => cases hp
      | some p0 =>
        obtain rfl := Option.some.inj hp
        have h := ST.out.2
        exact ⟨h.2.2 ▸ h.1, h.2.2 ▸ h.2.1⟩)
    have HLEN := Lib.hid (show m.parts.length ≤ 1000000 ∧ m.ops.length ≤ 1000000 ∧ m.vec.length ≤ 1000000 ∧ m.hits.length ≤ 1000000 by have := MF.out.2.2; omega)
    go_upto_region 20 with fail
    iterate 13 go_step
    go_cut [21, 22, 100] (fun s21 s22 s100 wc => JoinC w wr Ws ga xa (fun j => (Value.slice q7 m.vec.length c7).ownBlock = some j) s21 s22 wc)
    case first =>
      --<<
      have hx : l[k].act % 11 = 0 ∨ l[k].act % 11 = 1 ∨ l[k].act % 11 = 2 ∨ l[k].act % 11 = 9 ∨ l[k].act % 11 = 10 ∨ (¬ l[k].act % 11 = 0 ∧ ¬ l[k].act % 11 = 1 ∧ ¬ l[k].act % 11 = 2 ∧ ¬ l[k].act % 11 = 9 ∧ ¬ l[k].act % 11 = 10) := by omega
      rcases hx with e0 | e0 | e0 | e0 | e0 | ⟨n0, n1, n2, n9, n10⟩
      · as_aux_lemma =>
          go_upto_region 25 with fail
          obtain ⟨Wd, hWd⟩ : ∃ Wd, Wd = Ws.drew := ⟨_, rfl⟩
          have bd : Below Ws.heap.size Ws Wd := by rw [hWd]; exact (Below.refl _ _).drew
          have HWd := Lib.hid hWd
          have BD := Lib.hid bd
          have HKD := Lib.hid (show ∀ j, ((Value.slice q7 m.vec.length c7).ownBlock = some j ∨ (Wa.heap.size ≤ j ∧ j < w5.heap.size)) → wr.heap.size ≤ j ∧ j < Wd.heap.size from fun j hj => ⟨(HKP.out j hj).1, Nat.lt_of_lt_of_le (HKP.out j hj).2 bd.size⟩)
          have SD := Lib.hid (show Wd.cell? ⟨wr.heap.size, 1, none⟩ = some (.int .i64 l[k].frm) ∧ Wd.heap[w7.heap.size]? = some (.cells MD 37 (0, 0)) ∧ Wd.heap[w5.heap.size]? = some (.cells MC 53 (0, 0)) from ⟨below_cells bd d1, (bd.block _ (lt_block YS.out.2)).trans YS.out.2, (bd.block _ (lt_block YS.out.1)).trans YS.out.1⟩)
          have ED := Lib.hid (show NoteV Wd (fun j => W6.heap.size ≤ j ∧ j < w7.heap.size ∧ (Value.slice q7 m.vec.length c7).ownBlock ≠ some j) m vp7 vo7 (.slice q7 m.vec.length c7) vh7 ∧ NoteM Wd (fun j => Wa.heap.size ≤ j ∧ j < w5.heap.size) m vp5 vo5 vv5 vh5 from ⟨EM.out.1.below (B9.out.trans (bd.mono B9.out.size)), EN8.out.below (B9.out.trans (bd.mono B9.out.size))⟩)
          have MSZ2 : (Tryd.prog.info? 53).map (·.size) = some MC.size := MSZ
          clear hWd
          have PG := Lib.hid (progAsk w wr ga xa (fun j => (Value.slice q7 m.vec.length c7).ownBlock = some j ∨ (Wa.heap.size ≤ j ∧ j < w5.heap.size)) op Wd ST.out.1 (BAS.out.trans (BD.out.mono BAS.out.size)) HKD.out ST.out.2 TT.out _ m vp7 vo7 (.slice q7 m.vec.length c7) vh7 l[k].frm st mk ED.out.1 MF.out.1.kind HLEN.out)
          rw [← HMD.out] at PG
          refine region_go (fun w' => w'.cell? ⟨wr.heap.size, 1, none⟩ = some (.int .i64 l[k].frm) ∧ w'.heap[w7.heap.size]? = some (.cells MD 37 (0, 0)) ∧ w'.heap[w5.heap.size]? = some (.cells MC 53 (0, 0))) (by kernel_rfl) ?hS0 (fun hH => ?_)
          case hS0 =>
            rw [← HWd.out]; exact SD.out
          rw [← HWd.out] at hH ⊢
          refine kY 0 hH ?_
          repeat simp only [Act.put, uA1, uB1, uC1]
          refine kY 1 hH ?_
          repeat simp only [Act.put, uA1, uB1, uC1]
          refine kY 2 hH ?_
          repeat simp only [Act.put, uA1, uB1, uC1]
          refine kY 3 hH ?_ (v := (.agg MD)) (hy := by intro w hS; exact load_row_yields 37 _ rfl w7.heap.size (by rfl) 37 MD (0, 0) _ hS.2.1 Tryd.underlying37 rfl DSZ)
          repeat simp only [Act.put, uA1, uB1, uC1]
          refine kY 4 hH ?_
          repeat simp only [Act.put, uA1, uB1, uC1]
          refine kY 5 hH ?_
          repeat simp only [Act.put, uA1, uB1, uC1]
          refine kY 7 hH ?_
          repeat simp only [Act.put, uA1, uB1, uC1]
          refine kY 8 hH ?_
          repeat simp only [Act.put, uA1, uB1, uC1]
          refine kY 9 hH ?_
          repeat simp only [Act.put, uA1, uB1, uC1]
          refine kY 10 hH ?_ (v := (.agg MC)) (hy := by intro w hS; exact load_row_yields 53 _ rfl w5.heap.size (by rfl) 53 MC (0, 0) _ hS.2.2 Tryd.underlying53 rfl MSZ2)
          repeat simp only [Act.put, uA1, uB1, uC1]
          refine kY 11 hH ?_
          repeat simp only [Act.put, uA1, uB1, uC1]
          refine kY 12 hH ?_
          repeat simp only [Act.put, uA1, uB1, uC1]
          refine spk 6 rfl (by decide +kernel) (by rfl) (fun K' hK => ?_)
          go_simp
          with_reducible refine PG.out.mono ?_
          rintro e wA hA
          have HA := Lib.hid hA
          have hkA := hA
          obtain ⟨va, rsA, GA, rfl, -, -, -, -, hPA, hsA, hkeep⟩ := hkA
          have SA := Lib.hid (show wA.cell? ⟨wr.heap.size, 1, none⟩ = some (.int .i64 l[k].frm) ∧ wA.heap[w7.heap.size]? = some (.cells MD 37 (0, 0)) ∧ wA.heap[w5.heap.size]? = some (.cells MC 53 (0, 0)) from ⟨(World.cell?_of_block (a := ⟨wr.heap.size, 1, none⟩) (hkeep _ (Nat.le_refl _) (lt_of_cell SD.out.1))).trans SD.out.1, (hkeep _ (by have := SIZES.out; omega) (lt_block SD.out.2.1)).trans SD.out.2.1, (hkeep _ (by have := SIZES.out; omega) (lt_block SD.out.2.2)).trans SD.out.2.2⟩)
          have EA := Lib.hid (show NoteM wA (fun j => Wa.heap.size ≤ j ∧ j < w5.heap.size) m vp5 vo5 vv5 vh5 from ED.out.2.agree fun j hj => hkeep j (by have := SIZES.out; omega) (HKD.out j (.inr hj)).2)
          have PA := Lib.hid hPA
          clear hA hPA hsA hkeep
          have DG := Lib.hid (docAsk w wr ga xa (fun j => (Value.slice q7 m.vec.length c7).ownBlock = some j) (fun j => Wa.heap.size ≤ j ∧ j < w5.heap.size) op _ wA ST.out.1 PA.out HEK.out (OKM.out (.ask l[k].frm m st mk)) m vp5 vo5 vv5 vh5 l[k].frm st mk EA.out MF.out.1 HLEN.out.2.2.1)
          rw [← HMC.out] at DG
          try dsimp only
          refine hK.out _ _ ?hS (fun hH' => ?_)
          case hS =>
            exact SA.out
          clear hK K' hH; have hH := hH'; clear hH'; repeat simp only [Act.put, uA1, uB1, uC1]
          refine spk 13 rfl (by decide +kernel) (by rfl) (fun K' hK => ?_)
          go_simp
          with_reducible refine DG.out.mono ?_
          intro e wB hB
          have JJ := Lib.hid hB
          obtain ⟨⟨vb, rsB, GB, rfl, -, -, -, -, -, hsB, hkB⟩, -⟩ := hB
          have SB := Lib.hid (show wB.cell? ⟨wr.heap.size, 1, none⟩ = some (.int .i64 l[k].frm) ∧ wB.heap[w7.heap.size]? = some (.cells MD 37 (0, 0)) ∧ wB.heap[w5.heap.size]? = some (.cells MC 53 (0, 0)) from ⟨(World.cell?_of_block (a := ⟨wr.heap.size, 1, none⟩) (hkB _ (Nat.le_refl _) (lt_of_cell SA.out.1))).trans SA.out.1, (hkB _ (by have := SIZES.out; omega) (lt_block SA.out.2.1)).trans SA.out.2.1, (hkB _ (by have := SIZES.out; omega) (lt_block SA.out.2.2)).trans SA.out.2.2⟩)
          have JC := Lib.hid (joinC ST.out.2 BD.out BAS.out.size HA.out JJ.out.1 JJ.out.2 rfl rfl)
          clear hsB hkB
          try dsimp only
          refine hK.out _ _ ?hS (fun hH' => ?_)
          case hS =>
            exact SB.out
          clear hK K' hH; have hH := hH'; clear hH'; repeat simp only [Act.put, uA1, uB1, uC1]
          refine kY 14 hH ?_
          repeat simp only [Act.put, uA1, uB1, uC1]
          refine kY 15 hH ?_
          repeat simp only [Act.put, uA1, uB1, uC1]
          refine wpAnyH_done (by decide +kernel) ?_ _
          clear hH
          go_wp2_with fail
          go_meet
          exact JC.out
      · as_aux_lemma =>
          go_upto_region 25 with fail
          obtain ⟨Wd, hWd⟩ : ∃ Wd, Wd = Ws.drew := ⟨_, rfl⟩
          have bd : Below Ws.heap.size Ws Wd := by rw [hWd]; exact (Below.refl _ _).drew
          have HWd := Lib.hid hWd
          have BD := Lib.hid bd
          have HKD := Lib.hid (show ∀ j, ((Value.slice q7 m.vec.length c7).ownBlock = some j ∨ (Wa.heap.size ≤ j ∧ j < w5.heap.size)) → wr.heap.size ≤ j ∧ j < Wd.heap.size from fun j hj => ⟨(HKP.out j hj).1, Nat.lt_of_lt_of_le (HKP.out j hj).2 bd.size⟩)
          have SD := Lib.hid (show Wd.cell? ⟨wr.heap.size, 1, none⟩ = some (.int .i64 l[k].frm) ∧ Wd.heap[w7.heap.size]? = some (.cells MD 37 (0, 0)) ∧ Wd.heap[w5.heap.size]? = some (.cells MC 53 (0, 0)) from ⟨below_cells bd d1, (bd.block _ (lt_block YS.out.2)).trans YS.out.2, (bd.block _ (lt_block YS.out.1)).trans YS.out.1⟩)
          have ED := Lib.hid (show NoteV Wd (fun j => W6.heap.size ≤ j ∧ j < w7.heap.size ∧ (Value.slice q7 m.vec.length c7).ownBlock ≠ some j) m vp7 vo7 (.slice q7 m.vec.length c7) vh7 ∧ NoteM Wd (fun j => Wa.heap.size ≤ j ∧ j < w5.heap.size) m vp5 vo5 vv5 vh5 from ⟨EM.out.1.below (B9.out.trans (bd.mono B9.out.size)), EN8.out.below (B9.out.trans (bd.mono B9.out.size))⟩)
          have MSZ2 : (Tryd.prog.info? 53).map (·.size) = some MC.size := MSZ
          clear hWd
          have PG := Lib.hid (progAsk w wr ga xa (fun j => (Value.slice q7 m.vec.length c7).ownBlock = some j ∨ (Wa.heap.size ≤ j ∧ j < w5.heap.size)) op Wd ST.out.1 (BAS.out.trans (BD.out.mono BAS.out.size)) HKD.out ST.out.2 TT.out _ m vp7 vo7 (.slice q7 m.vec.length c7) vh7 l[k].frm st mk ED.out.1 MF.out.1.kind HLEN.out)
          rw [← HMD.out] at PG
          refine region_go (fun w' => w'.cell? ⟨wr.heap.size, 1, none⟩ = some (.int .i64 l[k].frm) ∧ w'.heap[w7.heap.size]? = some (.cells MD 37 (0, 0)) ∧ w'.heap[w5.heap.size]? = some (.cells MC 53 (0, 0))) (by kernel_rfl) ?hS0 (fun hH => ?_)
          case hS0 =>
            rw [← HWd.out]; exact SD.out
          rw [← HWd.out] at hH ⊢
          refine kY 0 hH ?_
          repeat simp only [Act.put, uA1, uB1, uC1]
          refine kY 1 hH ?_
          repeat simp only [Act.put, uA1, uB1, uC1]
          refine kY 2 hH ?_
          repeat simp only [Act.put, uA1, uB1, uC1]
          refine kY 3 hH ?_ (v := (.agg MD)) (hy := by intro w hS; exact load_row_yields 37 _ rfl w7.heap.size (by rfl) 37 MD (0, 0) _ hS.2.1 Tryd.underlying37 rfl DSZ)
          repeat simp only [Act.put, uA1, uB1, uC1]
          refine kY 4 hH ?_
          repeat simp only [Act.put, uA1, uB1, uC1]
          refine kY 5 hH ?_
          repeat simp only [Act.put, uA1, uB1, uC1]
          refine kY 7 hH ?_
          repeat simp only [Act.put, uA1, uB1, uC1]
          refine kY 8 hH ?_
          repeat simp only [Act.put, uA1, uB1, uC1]
          refine kY 9 hH ?_
          repeat simp only [Act.put, uA1, uB1, uC1]
          refine kY 10 hH ?_ (v := (.agg MC)) (hy := by intro w hS; exact load_row_yields 53 _ rfl w5.heap.size (by rfl) 53 MC (0, 0) _ hS.2.2 Tryd.underlying53 rfl MSZ2)
          repeat simp only [Act.put, uA1, uB1, uC1]
          refine kY 11 hH ?_
          repeat simp only [Act.put, uA1, uB1, uC1]
          refine kY 12 hH ?_
          repeat simp only [Act.put, uA1, uB1, uC1]
          refine spk 6 rfl (by decide +kernel) (by rfl) (fun K' hK => ?_)
          go_simp
          with_reducible refine PG.out.mono ?_
          rintro e wA hA
          have HA := Lib.hid hA
          have hkA := hA
          obtain ⟨va, rsA, GA, rfl, -, -, -, -, hPA, hsA, hkeep⟩ := hkA
          have SA := Lib.hid (show wA.cell? ⟨wr.heap.size, 1, none⟩ = some (.int .i64 l[k].frm) ∧ wA.heap[w7.heap.size]? = some (.cells MD 37 (0, 0)) ∧ wA.heap[w5.heap.size]? = some (.cells MC 53 (0, 0)) from ⟨(World.cell?_of_block (a := ⟨wr.heap.size, 1, none⟩) (hkeep _ (Nat.le_refl _) (lt_of_cell SD.out.1))).trans SD.out.1, (hkeep _ (by have := SIZES.out; omega) (lt_block SD.out.2.1)).trans SD.out.2.1, (hkeep _ (by have := SIZES.out; omega) (lt_block SD.out.2.2)).trans SD.out.2.2⟩)
          have EA := Lib.hid (show NoteM wA (fun j => Wa.heap.size ≤ j ∧ j < w5.heap.size) m vp5 vo5 vv5 vh5 from ED.out.2.agree fun j hj => hkeep j (by have := SIZES.out; omega) (HKD.out j (.inr hj)).2)
          have PA := Lib.hid hPA
          clear hA hPA hsA hkeep
          have DG := Lib.hid (docAsk w wr ga xa (fun j => (Value.slice q7 m.vec.length c7).ownBlock = some j) (fun j => Wa.heap.size ≤ j ∧ j < w5.heap.size) op _ wA ST.out.1 PA.out HEK.out (OKM.out (.ask l[k].frm m st mk)) m vp5 vo5 vv5 vh5 l[k].frm st mk EA.out MF.out.1 HLEN.out.2.2.1)
          rw [← HMC.out] at DG
          try dsimp only
          refine hK.out _ _ ?hS (fun hH' => ?_)
          case hS =>
            exact SA.out
          clear hK K' hH; have hH := hH'; clear hH'; repeat simp only [Act.put, uA1, uB1, uC1]
          refine spk 13 rfl (by decide +kernel) (by rfl) (fun K' hK => ?_)
          go_simp
          with_reducible refine DG.out.mono ?_
          intro e wB hB
          have JJ := Lib.hid hB
          obtain ⟨⟨vb, rsB, GB, rfl, -, -, -, -, -, hsB, hkB⟩, -⟩ := hB
          have SB := Lib.hid (show wB.cell? ⟨wr.heap.size, 1, none⟩ = some (.int .i64 l[k].frm) ∧ wB.heap[w7.heap.size]? = some (.cells MD 37 (0, 0)) ∧ wB.heap[w5.heap.size]? = some (.cells MC 53 (0, 0)) from ⟨(World.cell?_of_block (a := ⟨wr.heap.size, 1, none⟩) (hkB _ (Nat.le_refl _) (lt_of_cell SA.out.1))).trans SA.out.1, (hkB _ (by have := SIZES.out; omega) (lt_block SA.out.2.1)).trans SA.out.2.1, (hkB _ (by have := SIZES.out; omega) (lt_block SA.out.2.2)).trans SA.out.2.2⟩)
          have JC := Lib.hid (joinC ST.out.2 BD.out BAS.out.size HA.out JJ.out.1 JJ.out.2 rfl rfl)
          clear hsB hkB
          try dsimp only
          refine hK.out _ _ ?hS (fun hH' => ?_)
          case hS =>
            exact SB.out
          clear hK K' hH; have hH := hH'; clear hH'; repeat simp only [Act.put, uA1, uB1, uC1]
          refine kY 14 hH ?_
          repeat simp only [Act.put, uA1, uB1, uC1]
          refine kY 15 hH ?_
          repeat simp only [Act.put, uA1, uB1, uC1]
          refine wpAnyH_done (by decide +kernel) ?_ _
          clear hH
          go_wp2_with fail
          go_meet
          exact JC.out
      · as_aux_lemma =>
          go_upto_region 25 with fail
          obtain ⟨Wd, hWd⟩ : ∃ Wd, Wd = Ws.drew := ⟨_, rfl⟩
          have bd : Below Ws.heap.size Ws Wd := by rw [hWd]; exact (Below.refl _ _).drew
          have HWd := Lib.hid hWd
          have BD := Lib.hid bd
          have HKD := Lib.hid (show ∀ j, ((Value.slice q7 m.vec.length c7).ownBlock = some j ∨ (Wa.heap.size ≤ j ∧ j < w5.heap.size)) → wr.heap.size ≤ j ∧ j < Wd.heap.size from fun j hj => ⟨(HKP.out j hj).1, Nat.lt_of_lt_of_le (HKP.out j hj).2 bd.size⟩)
          have SD := Lib.hid (show Wd.cell? ⟨wr.heap.size, 1, none⟩ = some (.int .i64 l[k].frm) ∧ Wd.heap[w7.heap.size]? = some (.cells MD 37 (0, 0)) ∧ Wd.heap[w5.heap.size]? = some (.cells MC 53 (0, 0)) from ⟨below_cells bd d1, (bd.block _ (lt_block YS.out.2)).trans YS.out.2, (bd.block _ (lt_block YS.out.1)).trans YS.out.1⟩)
          have ED := Lib.hid (show NoteV Wd (fun j => W6.heap.size ≤ j ∧ j < w7.heap.size ∧ (Value.slice q7 m.vec.length c7).ownBlock ≠ some j) m vp7 vo7 (.slice q7 m.vec.length c7) vh7 ∧ NoteM Wd (fun j => Wa.heap.size ≤ j ∧ j < w5.heap.size) m vp5 vo5 vv5 vh5 from ⟨EM.out.1.below (B9.out.trans (bd.mono B9.out.size)), EN8.out.below (B9.out.trans (bd.mono B9.out.size))⟩)
          have MSZ2 : (Tryd.prog.info? 53).map (·.size) = some MC.size := MSZ
          clear hWd
          have PG := Lib.hid (progAsk w wr ga xa (fun j => (Value.slice q7 m.vec.length c7).ownBlock = some j ∨ (Wa.heap.size ≤ j ∧ j < w5.heap.size)) op Wd ST.out.1 (BAS.out.trans (BD.out.mono BAS.out.size)) HKD.out ST.out.2 TT.out _ m vp7 vo7 (.slice q7 m.vec.length c7) vh7 l[k].frm st mk ED.out.1 MF.out.1.kind HLEN.out)
          rw [← HMD.out] at PG
          refine region_go (fun w' => w'.cell? ⟨wr.heap.size, 1, none⟩ = some (.int .i64 l[k].frm) ∧ w'.heap[w7.heap.size]? = some (.cells MD 37 (0, 0)) ∧ w'.heap[w5.heap.size]? = some (.cells MC 53 (0, 0))) (by kernel_rfl) ?hS0 (fun hH => ?_)
          case hS0 =>
            rw [← HWd.out]; exact SD.out
          rw [← HWd.out] at hH ⊢
          refine kY 0 hH ?_
          repeat simp only [Act.put, uA1, uB1, uC1]
          refine kY 1 hH ?_
          repeat simp only [Act.put, uA1, uB1, uC1]
          refine kY 2 hH ?_
          repeat simp only [Act.put, uA1, uB1, uC1]
          refine kY 3 hH ?_ (v := (.agg MD)) (hy := by intro w hS; exact load_row_yields 37 _ rfl w7.heap.size (by rfl) 37 MD (0, 0) _ hS.2.1 Tryd.underlying37 rfl DSZ)
          repeat simp only [Act.put, uA1, uB1, uC1]
          refine kY 4 hH ?_
          repeat simp only [Act.put, uA1, uB1, uC1]
          refine kY 5 hH ?_
          repeat simp only [Act.put, uA1, uB1, uC1]
          refine kY 7 hH ?_
          repeat simp only [Act.put, uA1, uB1, uC1]
          refine kY 8 hH ?_
          repeat simp only [Act.put, uA1, uB1, uC1]
          refine kY 9 hH ?_
          repeat simp only [Act.put, uA1, uB1, uC1]
          refine kY 10 hH ?_ (v := (.agg MC)) (hy := by intro w hS; exact load_row_yields 53 _ rfl w5.heap.size (by rfl) 53 MC (0, 0) _ hS.2.2 Tryd.underlying53 rfl MSZ2)
          repeat simp only [Act.put, uA1, uB1, uC1]
          refine kY 11 hH ?_
          repeat simp only [Act.put, uA1, uB1, uC1]
          refine kY 12 hH ?_
          repeat simp only [Act.put, uA1, uB1, uC1]
          refine spk 6 rfl (by decide +kernel) (by rfl) (fun K' hK => ?_)
          go_simp
          with_reducible refine PG.out.mono ?_
          rintro e wA hA
          have HA := Lib.hid hA
          have hkA := hA
          obtain ⟨va, rsA, GA, rfl, -, -, -, -, hPA, hsA, hkeep⟩ := hkA
          have SA := Lib.hid (show wA.cell? ⟨wr.heap.size, 1, none⟩ = some (.int .i64 l[k].frm) ∧ wA.heap[w7.heap.size]? = some (.cells MD 37 (0, 0)) ∧ wA.heap[w5.heap.size]? = some (.cells MC 53 (0, 0)) from ⟨(World.cell?_of_block (a := ⟨wr.heap.size, 1, none⟩) (hkeep _ (Nat.le_refl _) (lt_of_cell SD.out.1))).trans SD.out.1, (hkeep _ (by have := SIZES.out; omega) (lt_block SD.out.2.1)).trans SD.out.2.1, (hkeep _ (by have := SIZES.out; omega) (lt_block SD.out.2.2)).trans SD.out.2.2⟩)
          have EA := Lib.hid (show NoteM wA (fun j => Wa.heap.size ≤ j ∧ j < w5.heap.size) m vp5 vo5 vv5 vh5 from ED.out.2.agree fun j hj => hkeep j (by have := SIZES.out; omega) (HKD.out j (.inr hj)).2)
          have PA := Lib.hid hPA
          clear hA hPA hsA hkeep
          have DG := Lib.hid (docAsk w wr ga xa (fun j => (Value.slice q7 m.vec.length c7).ownBlock = some j) (fun j => Wa.heap.size ≤ j ∧ j < w5.heap.size) op _ wA ST.out.1 PA.out HEK.out (OKM.out (.ask l[k].frm m st mk)) m vp5 vo5 vv5 vh5 l[k].frm st mk EA.out MF.out.1 HLEN.out.2.2.1)
          rw [← HMC.out] at DG
          try dsimp only
          refine hK.out _ _ ?hS (fun hH' => ?_)
          case hS =>
            exact SA.out
          clear hK K' hH; have hH := hH'; clear hH'; repeat simp only [Act.put, uA1, uB1, uC1]
          refine spk 13 rfl (by decide +kernel) (by rfl) (fun K' hK => ?_)
          go_simp
          with_reducible refine DG.out.mono ?_
          intro e wB hB
          have JJ := Lib.hid hB
          obtain ⟨⟨vb, rsB, GB, rfl, -, -, -, -, -, hsB, hkB⟩, -⟩ := hB
          have SB := Lib.hid (show wB.cell? ⟨wr.heap.size, 1, none⟩ = some (.int .i64 l[k].frm) ∧ wB.heap[w7.heap.size]? = some (.cells MD 37 (0, 0)) ∧ wB.heap[w5.heap.size]? = some (.cells MC 53 (0, 0)) from ⟨(World.cell?_of_block (a := ⟨wr.heap.size, 1, none⟩) (hkB _ (Nat.le_refl _) (lt_of_cell SA.out.1))).trans SA.out.1, (hkB _ (by have := SIZES.out; omega) (lt_block SA.out.2.1)).trans SA.out.2.1, (hkB _ (by have := SIZES.out; omega) (lt_block SA.out.2.2)).trans SA.out.2.2⟩)
          have JC := Lib.hid (joinC ST.out.2 BD.out BAS.out.size HA.out JJ.out.1 JJ.out.2 rfl rfl)
          clear hsB hkB
          try dsimp only
          refine hK.out _ _ ?hS (fun hH' => ?_)
          case hS =>
            exact SB.out
          clear hK K' hH; have hH := hH'; clear hH'; repeat simp only [Act.put, uA1, uB1, uC1]
          refine kY 14 hH ?_
          repeat simp only [Act.put, uA1, uB1, uC1]
          refine kY 15 hH ?_
          repeat simp only [Act.put, uA1, uB1, uC1]
          refine wpAnyH_done (by decide +kernel) ?_ _
          clear hH
          go_wp2_with fail
          go_meet
          exact JC.out
      · as_aux_lemma =>
          obtain ⟨Wd, hWd⟩ : ∃ Wd, Wd = Ws := ⟨_, rfl⟩
          have bd : Below Ws.heap.size Ws Wd := by rw [hWd]; exact Below.refl _ _
          have HWd := Lib.hid hWd
          have BD := Lib.hid bd
          have HKD := Lib.hid (show ∀ j, ((Value.slice q7 m.vec.length c7).ownBlock = some j ∨ (Wa.heap.size ≤ j ∧ j < w5.heap.size)) → wr.heap.size ≤ j ∧ j < Wd.heap.size from fun j hj => ⟨(HKP.out j hj).1, Nat.lt_of_lt_of_le (HKP.out j hj).2 bd.size⟩)
          have SD := Lib.hid (show Wd.cell? ⟨wr.heap.size, 1, none⟩ = some (.int .i64 l[k].frm) ∧ Wd.heap[w7.heap.size]? = some (.cells MD 37 (0, 0)) ∧ Wd.heap[w5.heap.size]? = some (.cells MC 53 (0, 0)) from ⟨below_cells bd d1, (bd.block _ (lt_block YS.out.2)).trans YS.out.2, (bd.block _ (lt_block YS.out.1)).trans YS.out.1⟩)
          have ED := Lib.hid (show NoteV Wd (fun j => W6.heap.size ≤ j ∧ j < w7.heap.size ∧ (Value.slice q7 m.vec.length c7).ownBlock ≠ some j) m vp7 vo7 (.slice q7 m.vec.length c7) vh7 ∧ NoteM Wd (fun j => Wa.heap.size ≤ j ∧ j < w5.heap.size) m vp5 vo5 vv5 vh5 from ⟨EM.out.1.below (B9.out.trans (bd.mono B9.out.size)), EN8.out.below (B9.out.trans (bd.mono B9.out.size))⟩)
          have PG := Lib.hid (progWake w wr ga xa (fun j => (Value.slice q7 m.vec.length c7).ownBlock = some j ∨ (Wa.heap.size ≤ j ∧ j < w5.heap.size)) op Wd ST.out.1 (BAS.out.trans (BD.out.mono BAS.out.size)) HKD.out ST.out.2 TT.out)
          rw [← hWd]
          clear hWd
          go_wp2_with fail
          with_reducible refine PG.out.mono ?_
          rintro e wA hA
          have HA := Lib.hid hA
          have hkA := hA
          obtain ⟨va, rsA, GA, rfl, -, -, -, -, hPA, hsA, hkeep⟩ := hkA
          have SA := Lib.hid (show wA.cell? ⟨wr.heap.size, 1, none⟩ = some (.int .i64 l[k].frm) ∧ wA.heap[w7.heap.size]? = some (.cells MD 37 (0, 0)) ∧ wA.heap[w5.heap.size]? = some (.cells MC 53 (0, 0)) from ⟨(World.cell?_of_block (a := ⟨wr.heap.size, 1, none⟩) (hkeep _ (Nat.le_refl _) (lt_of_cell SD.out.1))).trans SD.out.1, (hkeep _ (by have := SIZES.out; omega) (lt_block SD.out.2.1)).trans SD.out.2.1, (hkeep _ (by have := SIZES.out; omega) (lt_block SD.out.2.2)).trans SD.out.2.2⟩)
          have EA := Lib.hid (show NoteM wA (fun j => Wa.heap.size ≤ j ∧ j < w5.heap.size) m vp5 vo5 vv5 vh5 from ED.out.2.agree fun j hj => hkeep j (by have := SIZES.out; omega) (HKD.out j (.inr hj)).2)
          have PA := Lib.hid hPA
          clear hA hPA hsA hkeep
          have DG := Lib.hid (docWake w wr ga xa (fun j => (Value.slice q7 m.vec.length c7).ownBlock = some j) (fun j => Wa.heap.size ≤ j ∧ j < w5.heap.size) op _ wA ST.out.1 PA.out HEK.out (OKM.out .wake))
          go_wp2_with fail
          with_reducible refine DG.out.mono ?_
          intro e wB hB
          have JJ := Lib.hid hB
          obtain ⟨⟨vb, rsB, GB, rfl, -, -, -, -, -, hsB, hkB⟩, -⟩ := hB
          have SB := Lib.hid (show wB.cell? ⟨wr.heap.size, 1, none⟩ = some (.int .i64 l[k].frm) ∧ wB.heap[w7.heap.size]? = some (.cells MD 37 (0, 0)) ∧ wB.heap[w5.heap.size]? = some (.cells MC 53 (0, 0)) from ⟨(World.cell?_of_block (a := ⟨wr.heap.size, 1, none⟩) (hkB _ (Nat.le_refl _) (lt_of_cell SA.out.1))).trans SA.out.1, (hkB _ (by have := SIZES.out; omega) (lt_block SA.out.2.1)).trans SA.out.2.1, (hkB _ (by have := SIZES.out; omega) (lt_block SA.out.2.2)).trans SA.out.2.2⟩)
          have JC := Lib.hid (joinC ST.out.2 BD.out BAS.out.size HA.out JJ.out.1 JJ.out.2 rfl rfl)
          clear hsB hkB
          go_wp2_with fail
          go_meet
          exact JC.out
      · as_aux_lemma =>
          obtain ⟨Wd, hWd⟩ : ∃ Wd, Wd = Ws := ⟨_, rfl⟩
          have bd : Below Ws.heap.size Ws Wd := by rw [hWd]; exact Below.refl _ _
          have HWd := Lib.hid hWd
          have BD := Lib.hid bd
          have HKD := Lib.hid (show ∀ j, ((Value.slice q7 m.vec.length c7).ownBlock = some j ∨ (Wa.heap.size ≤ j ∧ j < w5.heap.size)) → wr.heap.size ≤ j ∧ j < Wd.heap.size from fun j hj => ⟨(HKP.out j hj).1, Nat.lt_of_lt_of_le (HKP.out j hj).2 bd.size⟩)
          have SD := Lib.hid (show Wd.cell? ⟨wr.heap.size, 1, none⟩ = some (.int .i64 l[k].frm) ∧ Wd.heap[w7.heap.size]? = some (.cells MD 37 (0, 0)) ∧ Wd.heap[w5.heap.size]? = some (.cells MC 53 (0, 0)) from ⟨below_cells bd d1, (bd.block _ (lt_block YS.out.2)).trans YS.out.2, (bd.block _ (lt_block YS.out.1)).trans YS.out.1⟩)
          have ED := Lib.hid (show NoteV Wd (fun j => W6.heap.size ≤ j ∧ j < w7.heap.size ∧ (Value.slice q7 m.vec.length c7).ownBlock ≠ some j) m vp7 vo7 (.slice q7 m.vec.length c7) vh7 ∧ NoteM Wd (fun j => Wa.heap.size ≤ j ∧ j < w5.heap.size) m vp5 vo5 vv5 vh5 from ⟨EM.out.1.below (B9.out.trans (bd.mono B9.out.size)), EN8.out.below (B9.out.trans (bd.mono B9.out.size))⟩)
          have PG := Lib.hid (progQuit w wr ga xa (fun j => (Value.slice q7 m.vec.length c7).ownBlock = some j ∨ (Wa.heap.size ≤ j ∧ j < w5.heap.size)) op Wd ST.out.1 (BAS.out.trans (BD.out.mono BAS.out.size)) HKD.out ST.out.2 TT.out)
          rw [← hWd]
          clear hWd
          go_wp2_with fail
          with_reducible refine PG.out.mono ?_
          rintro e wA hA
          have HA := Lib.hid hA
          have hkA := hA
          obtain ⟨va, rsA, GA, rfl, -, -, -, -, hPA, hsA, hkeep⟩ := hkA
          have SA := Lib.hid (show wA.cell? ⟨wr.heap.size, 1, none⟩ = some (.int .i64 l[k].frm) ∧ wA.heap[w7.heap.size]? = some (.cells MD 37 (0, 0)) ∧ wA.heap[w5.heap.size]? = some (.cells MC 53 (0, 0)) from ⟨(World.cell?_of_block (a := ⟨wr.heap.size, 1, none⟩) (hkeep _ (Nat.le_refl _) (lt_of_cell SD.out.1))).trans SD.out.1, (hkeep _ (by have := SIZES.out; omega) (lt_block SD.out.2.1)).trans SD.out.2.1, (hkeep _ (by have := SIZES.out; omega) (lt_block SD.out.2.2)).trans SD.out.2.2⟩)
          have EA := Lib.hid (show NoteM wA (fun j => Wa.heap.size ≤ j ∧ j < w5.heap.size) m vp5 vo5 vv5 vh5 from ED.out.2.agree fun j hj => hkeep j (by have := SIZES.out; omega) (HKD.out j (.inr hj)).2)
          have PA := Lib.hid hPA
          clear hA hPA hsA hkeep
          have DG := Lib.hid (docQuit w wr ga xa (fun j => (Value.slice q7 m.vec.length c7).ownBlock = some j) (fun j => Wa.heap.size ≤ j ∧ j < w5.heap.size) op _ wA ST.out.1 PA.out HEK.out (OKM.out .quit))
          go_wp2_with fail
          with_reducible refine DG.out.mono ?_
          intro e wB hB
          have JJ := Lib.hid hB
          obtain ⟨⟨vb, rsB, GB, rfl, -, -, -, -, -, hsB, hkB⟩, -⟩ := hB
          have SB := Lib.hid (show wB.cell? ⟨wr.heap.size, 1, none⟩ = some (.int .i64 l[k].frm) ∧ wB.heap[w7.heap.size]? = some (.cells MD 37 (0, 0)) ∧ wB.heap[w5.heap.size]? = some (.cells MC 53 (0, 0)) from ⟨(World.cell?_of_block (a := ⟨wr.heap.size, 1, none⟩) (hkB _ (Nat.le_refl _) (lt_of_cell SA.out.1))).trans SA.out.1, (hkB _ (by have := SIZES.out; omega) (lt_block SA.out.2.1)).trans SA.out.2.1, (hkB _ (by have := SIZES.out; omega) (lt_block SA.out.2.2)).trans SA.out.2.2⟩)
          have JC := Lib.hid (joinC ST.out.2 BD.out BAS.out.size HA.out JJ.out.1 JJ.out.2 rfl rfl)
          clear hsB hkB
          go_wp2_with fail
          go_meet
          exact JC.out
      · as_aux_lemma =>
          go_upto_region 21 with fail
          obtain ⟨Wd, hWd⟩ : ∃ Wd, Wd = Ws.drew := ⟨_, rfl⟩
          have bd : Below Ws.heap.size Ws Wd := by rw [hWd]; exact (Below.refl _ _).drew
          have HWd := Lib.hid hWd
          have BD := Lib.hid bd
          have HKD := Lib.hid (show ∀ j, ((Value.slice q7 m.vec.length c7).ownBlock = some j ∨ (Wa.heap.size ≤ j ∧ j < w5.heap.size)) → wr.heap.size ≤ j ∧ j < Wd.heap.size from fun j hj => ⟨(HKP.out j hj).1, Nat.lt_of_lt_of_le (HKP.out j hj).2 bd.size⟩)
          have SD := Lib.hid (show Wd.cell? ⟨wr.heap.size, 1, none⟩ = some (.int .i64 l[k].frm) ∧ Wd.heap[w7.heap.size]? = some (.cells MD 37 (0, 0)) ∧ Wd.heap[w5.heap.size]? = some (.cells MC 53 (0, 0)) from ⟨below_cells bd d1, (bd.block _ (lt_block YS.out.2)).trans YS.out.2, (bd.block _ (lt_block YS.out.1)).trans YS.out.1⟩)
          have ED := Lib.hid (show NoteV Wd (fun j => W6.heap.size ≤ j ∧ j < w7.heap.size ∧ (Value.slice q7 m.vec.length c7).ownBlock ≠ some j) m vp7 vo7 (.slice q7 m.vec.length c7) vh7 ∧ NoteM Wd (fun j => Wa.heap.size ≤ j ∧ j < w5.heap.size) m vp5 vo5 vv5 vh5 from ⟨EM.out.1.below (B9.out.trans (bd.mono B9.out.size)), EN8.out.below (B9.out.trans (bd.mono B9.out.size))⟩)
          have MSZ2 : (Tryd.prog.info? 53).map (·.size) = some MC.size := MSZ
          clear hWd
          have PG := Lib.hid (progHear w wr ga xa (fun j => (Value.slice q7 m.vec.length c7).ownBlock = some j ∨ (Wa.heap.size ≤ j ∧ j < w5.heap.size)) op Wd ST.out.1 (BAS.out.trans (BD.out.mono BAS.out.size)) HKD.out ST.out.2 TT.out _ m vp7 vo7 (.slice q7 m.vec.length c7) vh7 l[k].frm ED.out.1 MF.out.1.kind HLEN.out (fun j hj => ⟨by have := SIZES.out; omega, by have := SIZES.out; have := SZS.out; have := BD.out.size; omega, fun e => e.elim (fun e => hj.2.2 e) (fun e => by have := SIZES.out; omega)⟩))
          rw [← HMD.out] at PG
          refine region_go (fun w' => w'.cell? ⟨wr.heap.size, 1, none⟩ = some (.int .i64 l[k].frm) ∧ w'.heap[w7.heap.size]? = some (.cells MD 37 (0, 0)) ∧ w'.heap[w5.heap.size]? = some (.cells MC 53 (0, 0))) (by kernel_rfl) ?hS0 (fun hH => ?_)
          case hS0 =>
            rw [← HWd.out]; exact SD.out
          rw [← HWd.out] at hH ⊢
          refine kY 0 hH ?_
          repeat simp only [Act.put, uA1, uB1, uC1]
          refine kY 1 hH ?_
          repeat simp only [Act.put, uA1, uB1, uC1]
          refine kY 2 hH ?_
          repeat simp only [Act.put, uA1, uB1, uC1]
          refine kY 3 hH ?_ (v := (.agg MD)) (hy := by intro w hS; exact load_row_yields 37 _ rfl w7.heap.size (by rfl) 37 MD (0, 0) _ hS.2.1 Tryd.underlying37 rfl DSZ)
          repeat simp only [Act.put, uA1, uB1, uC1]
          refine kY 5 hH ?_
          repeat simp only [Act.put, uA1, uB1, uC1]
          refine kY 6 hH ?_
          repeat simp only [Act.put, uA1, uB1, uC1]
          refine kY 7 hH ?_
          repeat simp only [Act.put, uA1, uB1, uC1]
          refine kY 8 hH ?_ (v := (.agg MC)) (hy := by intro w hS; exact load_row_yields 53 _ rfl w5.heap.size (by rfl) 53 MC (0, 0) _ hS.2.2 Tryd.underlying53 rfl MSZ2)
          repeat simp only [Act.put, uA1, uB1, uC1]
          refine spk 4 rfl (by decide +kernel) (by rfl) (fun K' hK => ?_)
          go_simp
          with_reducible refine PG.out.mono ?_
          rintro e wA hA
          have HA := Lib.hid hA
          have hkA := hA
          obtain ⟨va, rsA, GA, rfl, -, -, -, -, hPA, hsA, hkeep⟩ := hkA
          have SA := Lib.hid (show wA.cell? ⟨wr.heap.size, 1, none⟩ = some (.int .i64 l[k].frm) ∧ wA.heap[w7.heap.size]? = some (.cells MD 37 (0, 0)) ∧ wA.heap[w5.heap.size]? = some (.cells MC 53 (0, 0)) from ⟨(World.cell?_of_block (a := ⟨wr.heap.size, 1, none⟩) (hkeep _ (Nat.le_refl _) (lt_of_cell SD.out.1))).trans SD.out.1, (hkeep _ (by have := SIZES.out; omega) (lt_block SD.out.2.1)).trans SD.out.2.1, (hkeep _ (by have := SIZES.out; omega) (lt_block SD.out.2.2)).trans SD.out.2.2⟩)
          have EA := Lib.hid (show NoteM wA (fun j => Wa.heap.size ≤ j ∧ j < w5.heap.size) m vp5 vo5 vv5 vh5 from ED.out.2.agree fun j hj => hkeep j (by have := SIZES.out; omega) (HKD.out j (.inr hj)).2)
          have PA := Lib.hid hPA
          clear hA hPA hsA hkeep
          have DG := Lib.hid (docHear w wr ga xa (fun j => (Value.slice q7 m.vec.length c7).ownBlock = some j) (fun j => Wa.heap.size ≤ j ∧ j < w5.heap.size) op _ wA ST.out.1 PA.out HEK.out (OKM.out (.hear l[k].frm m)) m vp5 vo5 vv5 vh5 l[k].frm EA.out MF.out.1)
          rw [← HMC.out] at DG
          try dsimp only
          refine hK.out _ _ ?hS (fun hH' => ?_)
          case hS =>
            exact SA.out
          clear hK K' hH; have hH := hH'; clear hH'; repeat simp only [Act.put, uA1, uB1, uC1]
          refine spk 9 rfl (by decide +kernel) (by rfl) (fun K' hK => ?_)
          go_simp
          with_reducible refine DG.out.mono ?_
          intro e wB hB
          have JJ := Lib.hid hB
          obtain ⟨⟨vb, rsB, GB, rfl, -, -, -, -, -, hsB, hkB⟩, -⟩ := hB
          have SB := Lib.hid (show wB.cell? ⟨wr.heap.size, 1, none⟩ = some (.int .i64 l[k].frm) ∧ wB.heap[w7.heap.size]? = some (.cells MD 37 (0, 0)) ∧ wB.heap[w5.heap.size]? = some (.cells MC 53 (0, 0)) from ⟨(World.cell?_of_block (a := ⟨wr.heap.size, 1, none⟩) (hkB _ (Nat.le_refl _) (lt_of_cell SA.out.1))).trans SA.out.1, (hkB _ (by have := SIZES.out; omega) (lt_block SA.out.2.1)).trans SA.out.2.1, (hkB _ (by have := SIZES.out; omega) (lt_block SA.out.2.2)).trans SA.out.2.2⟩)
          have JC := Lib.hid (joinC ST.out.2 BD.out BAS.out.size HA.out JJ.out.1 JJ.out.2 rfl rfl)
          clear hsB hkB
          try dsimp only
          refine hK.out _ _ ?hS (fun hH' => ?_)
          case hS =>
            exact SB.out
          clear hK K' hH; have hH := hH'; clear hH'; repeat simp only [Act.put, uA1, uB1, uC1]
          refine kY 10 hH ?_
          repeat simp only [Act.put, uA1, uB1, uC1]
          refine kY 11 hH ?_
          repeat simp only [Act.put, uA1, uB1, uC1]
          refine wpAnyH_done (by decide +kernel) ?_ _
          clear hH
          go_wp2_with fail
          go_meet
          exact JC.out
      -->>
    case rest =>
    as_aux_lemma =>
      obtain ⟨wj, rfl⟩ : ∃ wj : World, wj = wc := ⟨_, rfl⟩
      obtain ⟨rs, ss, G1, G2, R1, R2, op', hra, hma, hrb, hmb, hsay, hrl, hP', hok', hsj, hkj⟩ := hcut
      obtain ⟨qa, na, ca, rfl⟩ := own_form hra
      obtain ⟨qb, nb, cb, rfl⟩ := own_form hrb
      have SJ := Lib.hid (And.intro hP' hok')
      have OPL := Lib.hid (show opLen op' ≤ 8 by
        cases op' with
        | none => exact Nat.zero_le _
        | some p' => exact hok'.1.most)
      have MCV := Lib.hid (mailConv rs G1 _ _ _ wj hra hma (by omega))
      have RJ := Lib.hid (And.intro hma (And.intro hrb (And.intro hmb (And.intro hsay hrl))))
      have YJ := Lib.hid (show wj.heap[w5.heap.size]? = some (.cells MC 53 (0, 0)) ∧ wj.heap[w7.heap.size]? = some (.cells MD 37 (0, 0)) from ⟨(hkj _ (by have := SIZES.out; omega) (lt_block YS.out.1)).trans YS.out.1, (hkj _ (by have := SIZES.out; omega) (lt_block YS.out.2)).trans YS.out.2⟩)
      have EJ := Lib.hid (show NoteV wj (fun j => W6.heap.size ≤ j ∧ j < w7.heap.size ∧ (Value.slice q7 m.vec.length c7).ownBlock ≠ some j) m vp7 vo7 (.slice q7 m.vec.length c7) vh7 ∧ NoteV wj (fun j => Wa.heap.size ≤ j ∧ j < w5.heap.size) m vp5 vo5 vv5 vh5 ∧ NumRow wj W6.heap.size 21 m.vec.length (.slice q7 m.vec.length c7) by
        have h1 := SIZES.out
        have h2 := SZS.out
        have hA : ∀ j, W6.heap.size ≤ j → j < w7.heap.size → wj.heap[j]? = Ws.heap[j]? := fun j j1 j2 => hkj j (by omega) (by omega)
        have hB : Agree (fun j => Wa.heap.size ≤ j ∧ j < w5.heap.size) Ws wj := fun j hj => hkj j (by omega) (by omega)
        have eM := EM.out.1.below B9.out
        have oM := own_below EM.out.2.1 B9.out
        have eN := EN8.out.below B9.out
        refine ⟨⟨?_, eM.ops.agree fun j hj => hA j hj.1 hj.2.1, ?_, eM.hits.agree fun j hj => hA j hj.1 hj.2.1⟩, (eN.agree hB).read, NumRow.of (own_agree oM fun j e => hA j (EM.out.2.2 j e).1 (EM.out.2.2 j e).2)⟩
        · exact (NL7.out.1.below B9.out).agree NL7.out.2 fun j hj => hA j hj.1 hj.2.1
        · exact Nums.of_own (own_agree oM fun j e => hA j (EM.out.2.2 j e).1 (EM.out.2.2 j e).2))
      clear hra hma hrb hmb hsay hrl hP' hok' hsj hkj d0 d1 fa
      go_upto_region 31 with fail
      go_cut [142] (fun s142 wc => s142 = .bool op'.isSome ∧ wj = wc)
      case first =>
        cases op' with
        | none =>
          obtain ⟨⟨rfl, rfl, -⟩, -⟩ := SJ.out
          go_wp2_with fail
          go_meet
          exact ⟨rfl, rfl⟩
        | some p' =>
          obtain ⟨⟨c, cx, F, R, Fx, rfl, rfl, -⟩, -⟩ := SJ.out
          go_wp2_with fail
          go_meet
          exact ⟨rfl, rfl⟩
      case rest =>
      obtain ⟨rfl, rfl⟩ := hcut
      go_upto_if 142 with fail
      go_cut [23] (fun s23 wc => s23 = .int .i64 (opLen op') ∧ wj = wc)
      case first =>
        cases op' with
        | none =>
          go_wp2_with fail
          go_meet
          exact ⟨rfl, rfl⟩
        | some p' =>
          obtain ⟨⟨c, cx, F, R, Fx, rfl, rfl, -, hx, -⟩, -, -, hpe⟩ := SJ.out
          obtain ⟨v, xs, h1, h2, h3, -⟩ := hx
          obtain ⟨p, cap, rfl, -⟩ := h2
          have x3 : wj.cell? ⟨cx, 3, none⟩ = some (.slice p xs.length cap) := by rw [cells_get h1 3]; rfl
          have hxl : xs.length = opLen (some p') := by
            show xs.length = p'.1.l.length
            rw [hpe, ← h3, List.length_map]
          clear h1 h3 hpe
          go_wp2_with fail
          go_meet
          exact ⟨rfl, rfl⟩
      case rest =>
      obtain ⟨rfl, rfl⟩ := hcut
      obtain ⟨ol, hol⟩ : ∃ ol : Int, ol = (opLen op' : Int) := ⟨_, rfl⟩
      rw [← hol]
      have HOL := Lib.hid hol
      clear hol
      have yd0 := YJ.out.2
      have yc0 := YJ.out.1
      go_wp2_with fail
      with_reducible refine MCV.out.mono ?_
      rintro e wk ⟨uk, rfl, hok, hbk⟩
      have SM := Lib.hid (sameMail rs ss G1 G2 uk (.slice qb nb cb) _ _ _ _ wk hok (own_below RJ.out.2.1 hbk) RJ.out.2.2.2.1 (RJ.out.1.below hbk) (RJ.out.2.2.1.below hbk) (by have := RJ.out.2.2.2.2; omega))
      obtain ⟨qk, nk, ck, rfl⟩ := own_form hok
      have BK := Lib.hid hbk
      have yd1 := (hbk.block _ (lt_block yd0)).trans yd0
      have yc1 := (hbk.block _ (lt_block yc0)).trans yc0
      clear hok hbk yd0 yc0
      go_wp2_with fail
      with_reducible refine SM.out.mono ?_
      rintro e wl ⟨rfl, hbl⟩
      have BL := Lib.hid (BK.out.trans (hbl.mono BK.out.size))
      have yd2 := (hbl.block _ (lt_block yd1)).trans yd1
      have yc2 := (hbl.block _ (lt_block yc1)).trans yc1
      have SN := Lib.hid (sameNote m _ _ _ _ _ _ _ _ _ _ wl (EJ.out.1.below BL.out) (EJ.out.2.1.below BL.out))
      rw [← HMD.out, ← HMC.out] at SN
      clear hbl yd1 yc1
      have DSZ2 : (Tryd.prog.info? 37).map (·.size) = some MD.size := DSZ
      have MSZ3 : (Tryd.prog.info? 53).map (·.size) = some MC.size := MSZ
      go_wp2_with (first | refine wpList_rowH 37 _ rfl (by rfl) w7.heap.size (by rfl) 37 MD (0, 0) _ yd2 Tryd.underlying37 rfl DSZ2 ?_ | refine wpList_rowH 53 _ rfl (by rfl) w5.heap.size (by rfl) 53 MC (0, 0) _ yc2 Tryd.underlying53 rfl MSZ3 ?_)
      with_reducible refine SN.out.mono ?_
      rintro e wm ⟨rfl, hbm⟩
      have BM := Lib.hid (BL.out.trans (hbm.mono BL.out.size))
      have PM := Lib.hid (SJ.out.1.grow (K' := fun j => (Value.slice q7 m.vec.length c7).ownBlock = some j) BM.out (fun j hj => .inl hj))
      have LM := Lib.hid (lenP PM.out)
      rw [← HOL.out] at LM
      have yd3 := (hbm.block _ (lt_block yd2)).trans yd2
      clear hbm yd2 yc2
      go_wp2_with fail
      with_reducible refine LM.out.mono ?_
      rintro e w' ⟨rfl, rfl⟩
      have OM := Lib.hid (oldP PM.out SJ.out.2 st)
      go_wp2_with fail
      with_reducible refine OM.out.mono ?_
      rintro e w' ⟨rfl, rfl⟩
      have DM := Lib.hid (doldP PM.out SJ.out.2 st)
      go_wp2_with fail
      with_reducible refine DM.out.mono ?_
      rintro e wn ⟨rfl, hbn⟩
      have BN := Lib.hid (BM.out.trans (hbn.mono BM.out.size))
      have PN := Lib.hid (PM.out.grow (K' := fun j => (Value.slice q7 m.vec.length c7).ownBlock = some j) hbn (fun j hj => .inl hj))
      have yd4 := (hbn.block _ (lt_block yd3)).trans yd3
      have x14 : wn.cell? ⟨w7.heap.size, 14, none⟩ = some (.slice q7 m.vec.length c7) := by rw [cells_get yd4 14, HMD.out]; rfl
      have NR := Lib.hid (show NumRow wn W6.heap.size 21 m.vec.length (.slice q7 m.vec.length c7) by
        obtain ⟨us, ho, hx⟩ := EJ.out.2.2
        exact ⟨us, own_below ho BN.out, hx⟩)
      have hvl : m.vec.length ≤ 9223372036854775807 := by have := MF.out.2.2.2.2.1; omega
      have Y4 := Lib.hid yd4
      clear hbn yd3 yd4
      go_wp2_with fail
      clear x14
      obtain ⟨wo, rfl⟩ : ∃ wo : World, wo = wr := ⟨_, rfl⟩
      go_loopg [177] m.vec.length (fun q i wz => ∃ j : Nat, q = m.vec.length - j ∧ j ≤ m.vec.length ∧ i = .int .i64 j ∧ NumRow wz W6.heap.size 21 m.vec.length (.slice q7 m.vec.length c7) ∧ Mod (fun j => (Value.slice q7 m.vec.length c7).ownBlock = some j) wn wz)
      case atStart => exact ⟨0, rfl, by omega, rfl, NR.out, Mod.refl _ _⟩
      case round =>
        obtain ⟨j, rfl, hj, rfl, hN, hM⟩ := hrel
        have MZ := Lib.hid hM
        by_cases hjl : j < m.vec.length
        · obtain ⟨bv, xv, hq, -, hcv, hfv, hset⟩ := hN.at hjl
          subst hq
          have hbv : bv ≠ w7.heap.size := fun e => by
            have := EM.out.2.2 bv rfl
            omega
          have x14 : wr.cell? ⟨w7.heap.size, 14, none⟩ = some (.slice (some ⟨bv, 0, none⟩) m.vec.length c7) := by
            rw [cells_get ((hM.block _ (lt_block Y4.out) (fun e => hbv (by simpa [Value.ownBlock] using e))).trans Y4.out) 14, HMD.out]
            rfl
          have HS := Lib.hid hset
          have j0 : (0 : Int) ≤ (j : Int) := by omega
          have j1 : (j : Int) < (m.vec.length : Int) := by omega
          clear hN hM hset
          go_wp2_with fail
          go_roundg (m.vec.length - (j + 1))
          case measure => omega
          case rel => exact ⟨j + 1, rfl, by omega, by go_num, HS.out _, MZ.out.setCell (p := ⟨bv, j, none⟩) (.inl rfl) _⟩
        · obtain rfl : j = m.vec.length := by omega
          have NX := Lib.hid ((PN.out.write MZ.out (fun j hj => by
            have h1 := EM.out.2.2 j hj
            have h2 := ST.out.1.since.size
            have h3 := SIZES.out
            omega)).grow (K' := fun _ => False) (Below.refl _ _) (fun _ h => h.elim))
          clear hN hM
          go_wp2_with fail
          go_roundg (l.length - (k + 1))
          case measure => omega
          case rel => exact ⟨k + 1, op', rfl, by omega, by go_num, NX.out, SJ.out.2⟩

end Go.Proofs.YtfmlhdikagogcaaDoor
