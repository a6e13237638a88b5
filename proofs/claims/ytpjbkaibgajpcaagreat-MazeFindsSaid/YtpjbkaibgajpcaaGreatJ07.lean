/- walk: the order of what is to be gone to; where a node belongs in it. best: is there no room? walk: may a node be among the best? is one too far? best: many are added. -/
import Derived.Test.YtpjbkaibgajpcaaGreatJ02
import Derived.Test.YtpjbkaibgajpcaaGreatJ04
import Derived.Test.YtpjbkaibgajpcaaGreatJ06
import Derived.Deep.DeepCutAuto
namespace Go.Proofs.YtpjbkaibgajpcaaGreat
open Go.RowKit
set_option maxRecDepth 20000

def ordW (i d j e : Int) : Int := if nearB i d j e = true then 1 else if nearB j e i d = true then -1 else 0

theorem orderW (i d j e : Int) (v u : Value) (w : World) :
    Calls Tryz.prog 94 #[.agg #[.int .u64 i, .int .u64 d, v], .agg #[.int .u64 j, .int .u64 e, u]] w fun r w' => r = .returned (.int .i64 (ordW i d j e)) ∧ Below w.heap.size w w' := by
  have N1 := Lib.hid (fun W => nearer i d j e v u W)
  have N2 := Lib.hid (fun W => nearer j e i d u v W)
  have E := Lib.hid (show ordW i d j e = if nearB i d j e = true then 1 else if nearB j e i d = true then -1 else 0 from rfl)
  generalize ordW i d j e = x at *
  generalize nearB i d j e = p at *
  generalize nearB j e i d = q at *
  go_enter Tryz.func94, Tryz.ntmps94
  go_wp2_with fail
  have hb0 : Below w.heap.size w ((w.alloc (.cells #[.int .u64 i, .int .u64 d, v] 38)).alloc (.cells #[.int .u64 j, .int .u64 e, u] 38)) := ((Below.refl _ _).alloc (Nat.le_refl _) _).alloc (by simp) _
  have B0 := Lib.hid hb0
  clear hb0
  refine (N1.out _).mono ?_
  rintro r w1 ⟨rfl, hb1⟩
  obtain ⟨hc, hf⟩ := cells_same hb1
  have B1 := Lib.hid (B0.out.trans (hb1.mono B0.out.size))
  clear hb1
  cases p
  · go_wp2_with fail
    refine (N2.out _).mono ?_
    rintro r w2 ⟨rfl, hb2⟩
    have B2 := Lib.hid (B1.out.trans (hb2.mono B1.out.size))
    clear hb2
    cases q
    all_goals
      go_wp2_with fail
      go_ret
      exact ⟨ret_int (by rw [E.out]; rfl), B2.out⟩
  · go_wp2_with fail
    go_ret
    exact ⟨ret_int (by rw [E.out]; rfl), B1.out⟩

theorem ordW_neg (i d j e : Int) : decide (ordW i d j e < 0) = nearB j e i d := by
  unfold ordW
  cases h : nearB i d j e
  · cases nearB j e i d <;> simp
  · have : nearB j e i d = false := by
      simp only [nearB, Bool.or_eq_true, Bool.and_eq_true, decide_eq_true_eq, Bool.or_eq_false_iff, Bool.and_eq_false_iff, decide_eq_false_iff_not] at h ⊢
      omega
    rw [this]
    simp

theorem bsearchW (l : List Hz) (hn : l.length ≤ 1000000) (h : Hz) (u v : Value) (F : Nat → Prop) (w : World) (hl : HitsF w F v l) (c : Nat) (hc : c ≤ l.length) (h1 : ∀ k (hk : k < l.length), k < c → near h l[k] = true) (h2 : ∀ k (hk : k < l.length), c ≤ k → near h l[k] = false) :
    Calls Tryz.prog 93 #[v, .agg #[.int .u64 h.id, .int .u64 h.dist, u], .func (.func 94) #[] #[]] w fun e w' => ∃ b, e = .returned (.tuple #[.int .i64 c, .bool b]) ∧ Below w.heap.size w w' := by
  obtain ⟨p, cap, rfl, hcap, hbig, -, -⟩ := id hl
  obtain ⟨rs, hrs, hsrc, hel⟩ := hl.rows
  have E := Lib.hid hel
  have ORD := Lib.hid (fun k (hk : k < l.length) up (wr : World) => orderW l[k].id l[k].dist h.id h.dist up u wr)
  have C := Lib.hid (And.intro h1 h2)
  clear hcap hbig hl hrs hsrc hel h1 h2
  go_enter Tryz.func93, Tryz.ntmps93
  go_wp2_with fail
  go_loopg [9, 10, 11] l.length (fun q i j _ wr => ∃ a z : Nat, q = z - a ∧ a ≤ z ∧ z ≤ l.length ∧ i = .int .i64 a ∧ j = .int .i64 z ∧ a ≤ c ∧ c ≤ z ∧ Below (w.alloc (.cells #[.int .u64 h.id, .int .u64 h.dist, u] 38)).heap.size (w.alloc (.cells #[.int .u64 h.id, .int .u64 h.dist, u] 38)) wr)
  case atStart => exact ⟨0, l.length, rfl, by omega, by omega, rfl, rfl, by omega, hc, Below.refl _ _⟩
  case round =>
    obtain ⟨a, z, rfl, haz, hz, rfl, rfl, hac, hcz, hb⟩ := hrel
    have hb0 := (Below.refl w.heap.size w).alloc (Nat.le_refl _) (.cells #[.int .u64 h.id, .int .u64 h.dist, u] 38)
    have hbw := hb0.trans (hb.mono hb0.size)
    have B := Lib.hid (And.intro hbw hb)
    have t0 := below_cells hb (a := ⟨w.heap.size, 0, none⟩) (v := .int .u64 h.id) (by go_simp)
    have t1 := below_cells hb (a := ⟨w.heap.size, 1, none⟩) (v := .int .u64 h.dist) (by go_simp)
    have t2 := below_cells hb (a := ⟨w.heap.size, 2, none⟩) (v := u) (by go_simp)
    by_cases hlt : a < z
    · obtain ⟨m, hm, hma, hmz⟩ := half_i64 a z hlt (by omega)
      have hm2 : ((a : Int) + z) / 2 = (m : Int) := by omega
      have hml : m < l.length := by omega
      obtain ⟨bb, off, up, uc, -, rfl, -, -, c0, c1, c2, -, -⟩ := E.out m hml
      replace c0 := below_cells hbw c0
      replace c1 := below_cells hbw c1
      replace c2 := below_cells hbw c2
      clear hm hb0 hb hbw
      have NZ := Lib.hid (ordW_neg l[m].id l[m].dist h.id h.dist)
      have OR := Lib.hid (ORD.out m hml (.slice up l[m].vec.length uc))
      have RC := Lib.hid (And.intro (C.out.1 m hml) (C.out.2 m hml))
      generalize hx : ordW l[m].id l[m].dist h.id h.dist = x at *
      clear hx
      go_wp2_with fail
      obtain ⟨W0, hW0⟩ : ∃ W0, W0 = wr.drew := ⟨_, rfl⟩
      have B0 : Below wr.heap.size wr W0 := by rw [hW0]; exact (Below.refl _ _).drew
      replace t0 := below_cells B0 t0
      replace t1 := below_cells B0 t1
      replace t2 := below_cells B0 t2
      replace c0 := below_cells B0 c0
      replace c1 := below_cells B0 c1
      replace c2 := below_cells B0 c2
      have HW := Lib.hid hW0
      have BZ := Lib.hid (And.intro (B.out.1.trans (B0.mono B.out.1.size)) (B.out.2.trans (B0.mono B.out.2.size)))
      clear hW0 B0
      refine region_go (fun w' => w'.cell? ⟨w.heap.size, 0, none⟩ = some (.int .u64 h.id) ∧ w'.cell? ⟨w.heap.size, 1, none⟩ = some (.int .u64 h.dist) ∧ w'.cell? ⟨w.heap.size, 2, none⟩ = some u ∧ w'.cell? ⟨bb, off + m * 3, none⟩ = some (.int .u64 l[m].id) ∧ w'.cell? ⟨bb, off + m * 3 + 1, none⟩ = some (.int .u64 l[m].dist) ∧ w'.cell? ⟨bb, off + m * 3 + 1 + 1, none⟩ = some (.slice up l[m].vec.length uc)) (by kernel_rfl) ?hS0 (fun hH => ?_)
      case hS0 =>
        rw [← HW.out]; exact ⟨t0, t1, t2, c0, c1, c2⟩
      rw [← HW.out] at hH ⊢
      refine kY 0 hH ?_
      repeat simp only [Act.put, uA1, uB1, uC1]
      refine kY 1 hH ?_
      repeat simp only [Act.put, uA1, uB1, uC1]
      refine kY 2 hH ?_
      repeat simp only [Act.put, uA1, uB1, uC1]
      refine kY 3 hH ?_
      repeat simp only [Act.put, uA1, uB1, uC1]
      refine kY 4 hH ?_
      repeat simp only [Act.put, uA1, uB1, uC1]
      refine kY 5 hH ?_
      repeat simp only [Act.put, uA1, uB1, uC1]
      refine spk 6 rfl (by decide +kernel) (by rfl) (fun K' hK => ?_)
      go_simp
      refine (OR.out W0).mono ?_
      rintro e w6 ⟨rfl, hb6⟩
      try dsimp only
      refine hK.out _ _ ?hS (fun hH' => ?_)
      case hS =>
        exact ⟨below_cells hb6 t0, below_cells hb6 t1, below_cells hb6 t2, below_cells hb6 c0, below_cells hb6 c1, below_cells hb6 c2⟩
      clear hK K' hH; have hH := hH'; clear hH'; repeat simp only [Act.put, uA1, uB1, uC1]
      refine kY 7 hH ?_
      repeat simp only [Act.put, uA1, uB1, uC1]
      refine wpAnyH_done (by decide +kernel) ?_ _
      have B6 := Lib.hid (And.intro (BZ.out.1.trans (hb6.mono BZ.out.1.size)) (BZ.out.2.trans (hb6.mono BZ.out.2.size)))
      clear hH t0 t1 t2 c0 c1 c2 hb6
      have hd := NZ.out
      cases hy : near h l[m]
      · have hz : 0 ≤ x := by have := hd.trans hy; simpa using this
        have Y := Lib.hid hy
        have hcm : c ≤ m := Nat.le_of_not_lt fun hlt => by have := RC.out.1 hlt; rw [hy] at this; cases this
        clear hd hy
        go_wp2_with fail
        go_roundg (m - a)
        case measure => omega
        case rel => exact ⟨a, m, rfl, by omega, by omega, rfl, by go_num, hac, hcm, B6.out.2⟩
      · have hz : x < 0 := by have := hd.trans hy; simpa using this
        have hcm : m + 1 ≤ c := Nat.lt_of_not_le fun hle => by have := RC.out.2 hle; rw [hy] at this; cases this
        clear hd hy
        go_wp2_with fail
        go_roundg (z - (m + 1))
        case measure => omega
        case rel => exact ⟨m + 1, z, rfl, by omega, by omega, by go_num, rfl, hcm, hcz, B6.out.2⟩
    · obtain rfl : a = z := by omega
      obtain rfl : a = c := by omega
      clear hb0 hb hbw
      by_cases hal : a < l.length
      · obtain ⟨bb, off, up, uc, -, rfl, -, -, c0, c1, c2, -, -⟩ := E.out a hal
        replace c0 := below_cells B.out.1 c0
        replace c1 := below_cells B.out.1 c1
        replace c2 := below_cells B.out.1 c2
        have OR := Lib.hid (ORD.out a hal (.slice up l[a].vec.length uc))
        generalize hx : ordW l[a].id l[a].dist h.id h.dist = x at *
        clear hx
        have hd : decide (a < l.length) = true := decide_eq_true hal
        go_wp2_with fail
        obtain ⟨W0, hW0⟩ : ∃ W0, W0 = wr.drew := ⟨_, rfl⟩
        have B0 : Below wr.heap.size wr W0 := by rw [hW0]; exact (Below.refl _ _).drew
        replace t0 := below_cells B0 t0
        replace t1 := below_cells B0 t1
        replace t2 := below_cells B0 t2
        replace c0 := below_cells B0 c0
        replace c1 := below_cells B0 c1
        replace c2 := below_cells B0 c2
        have HW := Lib.hid hW0
        have BZ := Lib.hid (B.out.1.trans (B0.mono B.out.1.size))
        clear hW0 B0
        refine region_go (fun w' => w'.cell? ⟨w.heap.size, 0, none⟩ = some (.int .u64 h.id) ∧ w'.cell? ⟨w.heap.size, 1, none⟩ = some (.int .u64 h.dist) ∧ w'.cell? ⟨w.heap.size, 2, none⟩ = some u ∧ w'.cell? ⟨bb, off + a * 3, none⟩ = some (.int .u64 l[a].id) ∧ w'.cell? ⟨bb, off + a * 3 + 1, none⟩ = some (.int .u64 l[a].dist) ∧ w'.cell? ⟨bb, off + a * 3 + 1 + 1, none⟩ = some (.slice up l[a].vec.length uc)) (by kernel_rfl) ?hS0 (fun hH => ?_)
        case hS0 =>
          rw [← HW.out]; exact ⟨t0, t1, t2, c0, c1, c2⟩
        rw [← HW.out] at hH ⊢
        refine kY 0 hH ?_
        repeat simp only [Act.put, uA1, uB1, uC1]
        refine kY 1 hH ?_
        repeat simp only [Act.put, uA1, uB1, uC1]
        refine kY 2 hH ?_
        repeat simp only [Act.put, uA1, uB1, uC1]
        refine kY 3 hH ?_
        repeat simp only [Act.put, uA1, uB1, uC1]
        refine kY 4 hH ?_
        repeat simp only [Act.put, uA1, uB1, uC1]
        refine kY 5 hH ?_
        repeat simp only [Act.put, uA1, uB1, uC1]
        refine kY 6 hH ?_
        repeat simp only [Act.put, uA1, uB1, uC1]
        refine kY 7 hH ?_
        repeat simp only [Act.put, uA1, uB1, uC1]
        refine kY 8 hH ?_
        repeat simp only [Act.put, uA1, uB1, uC1]
        refine kY 9 hH ?_
        repeat simp only [Act.put, uA1, uB1, uC1]
        refine kY 10 hH ?_
        repeat simp only [Act.put, uA1, uB1, uC1]
        refine spk 11 rfl (by decide +kernel) (by rfl) (fun K' hK => ?_)
        go_simp
        refine (OR.out W0).mono ?_
        rintro e w6 ⟨rfl, hb6⟩
        try dsimp only
        refine hK.out _ _ ?hS (fun hH' => ?_)
        case hS =>
          exact ⟨below_cells hb6 t0, below_cells hb6 t1, below_cells hb6 t2, below_cells hb6 c0, below_cells hb6 c1, below_cells hb6 c2⟩
        clear hK K' hH; have hH := hH'; clear hH'; repeat simp only [Act.put, uA1, uB1, uC1]
        refine kY 12 hH ?_
        repeat simp only [Act.put, uA1, uB1, uC1]
        refine kY 13 hH ?_
        repeat simp only [Act.put, uA1, uB1, uC1]
        refine kY 14 hH ?_
        repeat simp only [Act.put, uA1, uB1, uC1]
        refine kY 15 hH ?_
        repeat simp only [Act.put, uA1, uB1, uC1]
        refine wpAnyH_done (by decide +kernel) ?_ _
        have B6 := Lib.hid (BZ.out.trans (hb6.mono BZ.out.size))
        clear hH t0 t1 t2 c0 c1 c2 hb6
        go_wp2_with fail
        go_ret2
        exact ⟨_, rfl, B6.out⟩
      · have hd : decide (a < l.length) = false := decide_eq_false hal
        go_wp2_with fail
        go_quiet (fail)
        rename_i nq
        go_wp2_with fail
        go_ret2
        exact ⟨_, rfl, below_drewN B.out.1 nq⟩

end Go.Proofs.YtpjbkaibgajpcaaGreat

namespace Go.Proofs.YtpjbkaibgajpcaaGreat
open Go.RowKit
set_option maxRecDepth 20000

theorem full (B c : Nat) (most : Int) (v : Value) (rs : List Hv) (G : Nat → Prop) (l : List Hz) (w : World) (h : ListOwn w B c most v rs G l) :
    Calls Tryz.prog 97 #[.pointer (some ⟨c, 0, none⟩)] w fun e w' => e = .returned (.bool ((l.length : Int) == most)) ∧ Drawn w w' := by
  obtain ⟨p, cap, rfl, -, -, -, -⟩ := h.hits
  obtain ⟨c0, c1, -⟩ := h.cells
  clear h
  go_enter Tryz.func97, Tryz.ntmps97
  go_wp2_with fail
  go_quiet (fail)
  rename_i nq
  go_wp2_with fail
  go_ret
  exact ⟨rfl, ⟨nq, rfl⟩⟩

end Go.Proofs.YtpjbkaibgajpcaaGreat

namespace Go.Proofs.YtpjbkaibgajpcaaGreat
open Go.RowKit
set_option maxRecDepth 20000


theorem cellsB {w : World} {b : Nat} {cs : Array Value} {t : TypeId} {fr : Nat × Nat} (h : w.heap[b]? = some (.cells cs t fr)) (j : Nat) : w.cell? ⟨b, j, none⟩ = cs[j]? := by simp [World.cell?, h]

theorem setBk {w : World} {b : Nat} {cs : Array Value} {t : TypeId} {fr : Nat × Nat} (h : w.heap[b]? = some (.cells cs t fr)) (j : Nat) (v : Value) : (w.setCell ⟨b, j, none⟩ v).heap[b]? = some (.cells (cs.setIfInBounds j v) t fr) := by
  simp only [World.setCell]
  rw [Array.getElem?_modify, if_pos rfl, h]
  rfl

set_option maxRecDepth 100000 in
set_option maxHeartbeats 4000000 in
theorem wHopeful (w : World) (B p c : Nat) (F : Nat → Prop) (most : Nat) (L : List Hz) (h : Hz) (u : Value) (hp : w.cell? ⟨p, 1, none⟩ = some (.pointer (some ⟨c, 0, none⟩))) (hL : ListAt w B F c most L) (gL : GoodL most L) (hm : 1 ≤ most ∧ most ≤ 1000) (hu : ∃ q n cp, u = .slice q n cp) :
    Calls Tryz.prog 91 #[.pointer (some ⟨p, 0, none⟩), .agg #[.int .u64 h.id, .int .u64 h.dist, u]] w fun e w' => e = .returned (.bool (hopeB most L h)) ∧ Below w.heap.size w w' := by
  obtain ⟨up, n, uc, rfl⟩ := hu
  have cc : w.cell? ⟨p, 1, none⟩ = some (.pointer (some ⟨c, 0, none⟩)) := hp
  obtain ⟨W1, hW1⟩ : ∃ W1, W1 = w.alloc (.cells #[.int .u64 h.id, .int .u64 h.dist, .slice up n uc] 38) := ⟨_, rfl⟩
  have hb1 : Below w.heap.size w W1 := by rw [hW1]; exact (Below.refl _ w).alloc (Nat.le_refl _) _
  have h1 := heap_alloc_new w (.cells #[.int .u64 h.id, .int .u64 h.dist, .slice up n uc] 38)
  rw [← hW1] at h1
  have hc1 := below_cells hb1 cc
  obtain ⟨v, rs, G, hO, -, -, -⟩ := hL
  have HO := Lib.hid (hO.below hb1)
  have cF := Lib.hid (fun (W : World) (hb : Below W1.heap.size W1 W) => full B c most v rs G L W (HO.out.below hb))
  rcases Nat.eq_zero_or_pos L.length with h0 | h0
  · obtain rfl := List.eq_nil_of_length_eq_zero h0
    have cW := worst_none B c most v rs G W1 HO.out
    have HW := Lib.hid hW1
    have B1 := Lib.hid hb1
    have hm0 : ((([] : List Hz).length : Int) == (most : Int)) = false := by simp; omega
    have HBZ := Lib.hid (show hopeB most [] h = true from by
      have : ¬ (0 = most) := by omega
      simp [hopeB, this])
    clear hW1 hb1 hO hp gL h0
    go_enter Tryz.func91, Tryz.ntmps91
    go_upto_region 1 with fail
    rw [← HW.out]
    go_upto_region 2 with (go_at_call 96; refine cW.mono ?_; rintro e w2 ⟨rfl, hb⟩; have B2 := Lib.hid hb; have hc2 := below_cells hb hc1; clear hb)
    obtain ⟨W3, hW3⟩ : ∃ W3, W3 = w2.alloc (.cells #[.int .u64 0, .int .u64 0, .slice none 0 0] 38) := ⟨_, rfl⟩
    rw [← hW3]
    have hb3 : Below W1.heap.size W1 W3 := by rw [hW3]; exact B2.out.alloc B2.out.size _
    have hc3 := below_cells hb3 hc1
    have cF3 := cF.out W3 hb3
    rw [hm0] at cF3
    have B3 := Lib.hid (B1.out.trans (hb3.mono B1.out.size))
    clear hW3 hb3 hc1 hc2 cc hm0
    go_wp2_with (go_at_call 97; refine cF3.mono ?_; rintro e w4 ⟨rfl, n4, rfl⟩)
    go_ret
    exact ⟨ret_bool HBZ.out.symm, below_drewN B3.out n4⟩
  · obtain ⟨k, hk⟩ : ∃ k, L.length = k + 1 := ⟨L.length - 1, by omega⟩
    have hkl : k < L.length := by omega
    have cW := worst_some B c most v rs G L k hkl hk (by have := gL.len; omega) (gL.vecs _ (List.getElem_mem hkl)) W1 HO.out
    have HW := Lib.hid hW1
    have B1 := Lib.hid hb1
    have HBZ := Lib.hid (hopeB_some (most := most) hm.1 hk h)
    obtain ⟨xl, hxl⟩ : ∃ xl, xl = L[k] := ⟨_, rfl⟩
    rw [← hxl] at cW
    have XL := Lib.hid hxl
    have hg : w.heap.size < W1.heap.size := lt_block h1
    have H1 := Lib.hid h1
    clear hW1 hb1 hO hp gL h0 hxl h1
    go_enter Tryz.func91, Tryz.ntmps91
    go_upto_region 1 with fail
    rw [← HW.out]
    go_upto_region 2 with (go_at_call 96; refine cW.mono ?_; rintro e w2 ⟨u2, rfl, hu2, hb⟩; obtain ⟨q2, n2, k2, rfl⟩ := own_form hu2; have B2 := Lib.hid hb; clear hb hu2)
    obtain ⟨W3, hW3⟩ : ∃ W3, W3 = w2.alloc (.cells #[.int .u64 xl.id, .int .u64 xl.dist, .slice q2 n2 k2] 38) := ⟨_, rfl⟩
    rw [← hW3]
    have hs2 := B2.out.size
    have hb3 : Below W1.heap.size W1 W3 := by
      rw [hW3]
      exact B2.out.alloc hs2 _
    have y3 : W3.heap[w2.heap.size]? = some (.cells #[.int .u64 xl.id, .int .u64 xl.dist, .slice q2 n2 k2] 38 (0, 0)) := by
      rw [hW3]
      exact heap_alloc_new _ _
    have z3 := (hb3.block _ hg).trans H1.out
    have hc3 := below_cells hb3 hc1
    have cF3 := cF.out W3 hb3
    have B3 := Lib.hid (B1.out.trans (hb3.mono B1.out.size))
    obtain ⟨g3, hg3⟩ : ∃ g3, g3 = w2.heap.size := ⟨_, rfl⟩
    obtain ⟨g1, hg1⟩ : ∃ g1, g1 = w.heap.size := ⟨_, rfl⟩
    rw [← hg3] at y3 ⊢
    rw [← hg1] at z3 ⊢
    have Y3 := Lib.hid (And.intro y3 z3)
    by_cases hfl : L.length = most
    · have hfe : ((L.length : Int) == (most : Int)) = true := by simp [hfl]
      rw [hfe] at cF3
      have hopeBW := Lib.hid (show hopeB most L h = (near h xl) from by rw [HBZ.out, XL.out]; simp [hfl])
      have cN := Lib.hid (fun (W : World) => nearer h.id h.dist xl.id xl.dist (.slice up n uc) (.slice q2 n2 k2) W)
      clear hW3 hb3 hc1 cc hfe hfl y3 z3 hg3 hg1 hs2 hg
      go_wp2_with (go_at_call 97; refine cF3.mono ?_; rintro e w4 ⟨rfl, n4, rfl⟩; have B4 := Lib.hid (below_drewN B3.out n4); have y4 := Y3.out.1; have z4 := Y3.out.2; have e0 := cellsB y4 0; have e1 := cellsB y4 1; have e2 := cellsB y4 2; have f0 := cellsB z4 0; have f1 := cellsB z4 1; have f2 := cellsB z4 2; clear y4 z4)
      go_wp2_with (go_at_call 86; refine (cN.out _).mono ?_; rintro e w5 ⟨rfl, hb5⟩; have B5 := Lib.hid (B4.out.trans (hb5.mono B4.out.size)); clear hb5)
      go_ret
      exact ⟨ret_bool hopeBW.out.symm, B5.out⟩
    · have hfe : ((L.length : Int) == (most : Int)) = false := by simp; omega
      rw [hfe] at cF3
      have hopeBW := Lib.hid (show hopeB most L h = true from by rw [HBZ.out]; simp [hfl])
      clear hW3 hb3 hc1 cc hfe hfl y3 z3 hg3 hg1 hs2 hg
      go_wp2_with (go_at_call 97; refine cF3.mono ?_; rintro e w4 ⟨rfl, n4, rfl⟩)
      go_ret
      exact ⟨ret_bool hopeBW.out.symm, below_drewN B3.out n4⟩

set_option maxRecDepth 100000 in
set_option maxHeartbeats 4000000 in
theorem wOver (w : World) (B p c : Nat) (F : Nat → Prop) (most : Nat) (L : List Hz) (h : Hz) (u : Value) (hp : w.cell? ⟨p, 1, none⟩ = some (.pointer (some ⟨c, 0, none⟩))) (hL : ListAt w B F c most L) (gL : GoodL most L) (hm : 1 ≤ most ∧ most ≤ 1000) (hu : ∃ q n cp, u = .slice q n cp) :
    Calls Tryz.prog 71 #[.pointer (some ⟨p, 0, none⟩), .agg #[.int .u64 h.id, .int .u64 h.dist, u]] w fun e w' => e = .returned (.bool (overB most L h)) ∧ Below w.heap.size w w' := by
  obtain ⟨up, n, uc, rfl⟩ := hu
  have cc : w.cell? ⟨p, 1, none⟩ = some (.pointer (some ⟨c, 0, none⟩)) := hp
  obtain ⟨W1, hW1⟩ : ∃ W1, W1 = w.alloc (.cells #[.int .u64 h.id, .int .u64 h.dist, .slice up n uc] 38) := ⟨_, rfl⟩
  have hb1 : Below w.heap.size w W1 := by rw [hW1]; exact (Below.refl _ w).alloc (Nat.le_refl _) _
  have h1 := heap_alloc_new w (.cells #[.int .u64 h.id, .int .u64 h.dist, .slice up n uc] 38)
  rw [← hW1] at h1
  have hc1 := below_cells hb1 cc
  obtain ⟨v, rs, G, hO, -, -, -⟩ := hL
  have HO := Lib.hid (hO.below hb1)
  have cF := Lib.hid (fun (W : World) (hb : Below W1.heap.size W1 W) => full B c most v rs G L W (HO.out.below hb))
  rcases Nat.eq_zero_or_pos L.length with h0 | h0
  · obtain rfl := List.eq_nil_of_length_eq_zero h0
    have cW := worst_none B c most v rs G W1 HO.out
    have HW := Lib.hid hW1
    have B1 := Lib.hid hb1
    have hm0 : ((([] : List Hz).length : Int) == (most : Int)) = false := by simp; omega
    have HBZ := Lib.hid (show overB most [] h = false from by
      have : ¬ (0 = most) := by omega
      simp [overB, this])
    clear hW1 hb1 hO hp gL h0
    go_enter Tryz.func71, Tryz.ntmps71
    go_upto_region 1 with fail
    rw [← HW.out]
    go_upto_region 2 with (go_at_call 96; refine cW.mono ?_; rintro e w2 ⟨rfl, hb⟩; have B2 := Lib.hid hb; have hc2 := below_cells hb hc1; clear hb)
    obtain ⟨W3, hW3⟩ : ∃ W3, W3 = w2.alloc (.cells #[.int .u64 0, .int .u64 0, .slice none 0 0] 38) := ⟨_, rfl⟩
    rw [← hW3]
    have hb3 : Below W1.heap.size W1 W3 := by rw [hW3]; exact B2.out.alloc B2.out.size _
    have hc3 := below_cells hb3 hc1
    have cF3 := cF.out W3 hb3
    rw [hm0] at cF3
    have B3 := Lib.hid (B1.out.trans (hb3.mono B1.out.size))
    clear hW3 hb3 hc1 hc2 cc hm0
    go_wp2_with (go_at_call 97; refine cF3.mono ?_; rintro e w4 ⟨rfl, n4, rfl⟩)
    go_ret
    exact ⟨ret_bool HBZ.out.symm, below_drewN B3.out n4⟩
  · obtain ⟨k, hk⟩ : ∃ k, L.length = k + 1 := ⟨L.length - 1, by omega⟩
    have hkl : k < L.length := by omega
    have cW := worst_some B c most v rs G L k hkl hk (by have := gL.len; omega) (gL.vecs _ (List.getElem_mem hkl)) W1 HO.out
    have HW := Lib.hid hW1
    have B1 := Lib.hid hb1
    have HBZ := Lib.hid (overB_some (most := most) hm.1 hk h)
    obtain ⟨xl, hxl⟩ : ∃ xl, xl = L[k] := ⟨_, rfl⟩
    rw [← hxl] at cW
    have XL := Lib.hid hxl
    have hg : w.heap.size < W1.heap.size := lt_block h1
    have H1 := Lib.hid h1
    clear hW1 hb1 hO hp gL h0 hxl h1
    go_enter Tryz.func71, Tryz.ntmps71
    go_upto_region 1 with fail
    rw [← HW.out]
    go_upto_region 2 with (go_at_call 96; refine cW.mono ?_; rintro e w2 ⟨u2, rfl, hu2, hb⟩; obtain ⟨q2, n2, k2, rfl⟩ := own_form hu2; have B2 := Lib.hid hb; clear hb hu2)
    obtain ⟨W3, hW3⟩ : ∃ W3, W3 = w2.alloc (.cells #[.int .u64 xl.id, .int .u64 xl.dist, .slice q2 n2 k2] 38) := ⟨_, rfl⟩
    rw [← hW3]
    have hs2 := B2.out.size
    have hb3 : Below W1.heap.size W1 W3 := by
      rw [hW3]
      exact B2.out.alloc hs2 _
    have y3 : W3.heap[w2.heap.size]? = some (.cells #[.int .u64 xl.id, .int .u64 xl.dist, .slice q2 n2 k2] 38 (0, 0)) := by
      rw [hW3]
      exact heap_alloc_new _ _
    have z3 := (hb3.block _ hg).trans H1.out
    have hc3 := below_cells hb3 hc1
    have cF3 := cF.out W3 hb3
    have B3 := Lib.hid (B1.out.trans (hb3.mono B1.out.size))
    obtain ⟨g3, hg3⟩ : ∃ g3, g3 = w2.heap.size := ⟨_, rfl⟩
    obtain ⟨g1, hg1⟩ : ∃ g1, g1 = w.heap.size := ⟨_, rfl⟩
    rw [← hg3] at y3 ⊢
    rw [← hg1] at z3 ⊢
    have Y3 := Lib.hid (And.intro y3 z3)
    by_cases hfl : L.length = most
    · have hfe : ((L.length : Int) == (most : Int)) = true := by simp [hfl]
      rw [hfe] at cF3
      have overBW := Lib.hid (show overB most L h = (near xl h) from by rw [HBZ.out, XL.out]; simp [hfl])
      have cN := Lib.hid (fun (W : World) => nearer xl.id xl.dist h.id h.dist (.slice q2 n2 k2) (.slice up n uc) W)
      clear hW3 hb3 hc1 cc hfe hfl y3 z3 hg3 hg1 hs2 hg
      go_wp2_with (go_at_call 97; refine cF3.mono ?_; rintro e w4 ⟨rfl, n4, rfl⟩; have B4 := Lib.hid (below_drewN B3.out n4); have y4 := Y3.out.1; have z4 := Y3.out.2; have e0 := cellsB y4 0; have e1 := cellsB y4 1; have e2 := cellsB y4 2; have f0 := cellsB z4 0; have f1 := cellsB z4 1; have f2 := cellsB z4 2; clear y4 z4)
      go_wp2_with (go_at_call 86; refine (cN.out _).mono ?_; rintro e w5 ⟨rfl, hb5⟩; have B5 := Lib.hid (B4.out.trans (hb5.mono B4.out.size)); clear hb5)
      go_ret
      exact ⟨ret_bool overBW.out.symm, B5.out⟩
    · have hfe : ((L.length : Int) == (most : Int)) = false := by simp; omega
      rw [hfe] at cF3
      have overBW := Lib.hid (show overB most L h = false from by rw [HBZ.out]; simp [hfl])
      clear hW3 hb3 hc1 cc hfe hfl y3 z3 hg3 hg1 hs2 hg
      go_wp2_with (go_at_call 97; refine cF3.mono ?_; rintro e w4 ⟨rfl, n4, rfl⟩)
      go_ret
      exact ⟨ret_bool overBW.out.symm, below_drewN B3.out n4⟩

end Go.Proofs.YtpjbkaibgajpcaaGreat

namespace Go.Proofs.YtpjbkaibgajpcaaGreat
open Go.RowKit
set_option maxRecDepth 20000

def AddsTo (B c : Nat) (F : Nat → Prop) (most : Nat) (r : Nat × List Hz) (w : World) (e : Ending) (w' : World) : Prop :=
  e = .returned (.int .i64 r.1) ∧ ListAt w' B (Plus F w w') c most r.2 ∧ Mod F w w'

theorem adds_step {B c : Nat} {F : Nat → Prop} {most : Nat} {m : List Hz} {w wr w' : World} {o : Obj} (hm : Mod F w wr) (h1 : ListAt w' B (Plus (Plus F w wr) (wr.alloc o) w') c most m) (h2 : Mod (Plus F w wr) (wr.alloc o) w') :
    ListAt w' B (Plus F w w') c most m ∧ Mod F w w' := by
  have hs := h2.size
  have hs0 := hm.size
  have ho : (wr.alloc o).heap.size = wr.heap.size + 1 := by simp
  rw [ho] at hs
  refine ⟨h1.mono fun k hk => ?_, ?_⟩
  · rcases hk with (hk | ⟨ha, hb⟩) | ⟨ha, hb⟩
    · exact .inl hk
    · exact .inr ⟨ha, by omega⟩
    · rw [ho] at ha
      exact .inr ⟨by omega, hb⟩
  · refine (hm.andBelow ((Below.refl _ _).alloc (Nat.le_refl _) o)).trans h2 fun k hk hp => ?_
    rcases hp with hp | ⟨hp, _⟩
    · exact hp
    · omega

set_option maxHeartbeats 4000000 in
theorem adds (B c : Nat) (F E : Nat → Prop) (most : Nat) (l ms : List Hz) (v : Value) (w : World) (hm1 : 1 ≤ most) (hm2 : most ≤ 100000) (hL : ListAt w B F c most l) (hF : ∀ k, F k → k < w.heap.size) (hB : B ≤ w.heap.size)
    (hg : GoodL most l) (hv : HitsF w E v ms) (hE : ∀ k, E k → k < w.heap.size ∧ ¬ F k) (hx : ∀ h ∈ ms, h.vec.length ≤ 1000000) (hml : ms.length ≤ 1000000) :
    Calls Tryz.prog 92 #[.pointer (some ⟨c, 0, none⟩), v] w (AddsTo B c F most (addsZ most l ms) w) := by
  obtain ⟨p, cap, rfl, hcap, hbig, -, -⟩ := id hv
  have H := Lib.hid (And.intro hF (And.intro hB (And.intro hg (And.intro hv (And.intro hE hx)))))
  have L0 := Lib.hid hL
  have M2 := Lib.hid hm2
  clear hL hF hB hg hv hE hx hcap hbig hm2
  go_enter Tryz.func92, Tryz.ntmps92
  go_wp2_with fail
  go_loopg [5, 12] ms.length (fun q n i wr => ∃ k : Nat, q = ms.length - k ∧ k ≤ ms.length ∧ i = .int .i64 k ∧ n = .int .i64 (addsZ most l (ms.take k)).1 ∧ ListAt wr B (Plus F w wr) c most (addsZ most l (ms.take k)).2 ∧ Mod F w wr)
  case atStart => exact ⟨0, rfl, by omega, rfl, rfl, L0.out.mono fun _ => .inl, Mod.refl _ _⟩
  case round =>
    obtain ⟨k, rfl, hk, rfl, rfl, hl, hmod⟩ := hrel
    by_cases hlt : k < ms.length
    · obtain ⟨hF, hB, hg, hv, hE, hx⟩ := H.out
      have hvr := hv.agree (Agree.of_mod hmod (fun k hk => (hE k hk).1) fun k hk => (hE k hk).2)
      obtain ⟨rs', -, -, hel⟩ := hvr.rows
      obtain ⟨b, off, up, ucap, -, rfl, hEb, -, c0, c1, c2, hu, hlu⟩ := hel k hlt
      have hs := hmod.size
      have hgk := addsZ_good (most := most) hm1 hg (ms.take k) fun h hh => hx h (List.mem_of_mem_take hh)
      have hxk := hx _ (List.getElem_mem hlt)
      have hle := addsZ_le most l (ms.take k)
      have hb1 := (Below.refl wr.heap.size wr).alloc (Nat.le_refl _) (Obj.cells #[Value.int IntKind.u64 ms[k].id, Value.int IntKind.u64 ms[k].dist, Value.slice up ms[k].vec.length ucap] 38)
      have AD := Lib.hid (add B c (Plus F w wr) most (addsZ most l (ms.take k)).2 ms[k] (.slice up ms[k].vec.length ucap) (wr.alloc (Obj.cells #[Value.int IntKind.u64 ms[k].id, Value.int IntKind.u64 ms[k].dist, Value.slice up ms[k].vec.length ucap] 38)) hm1 M2.out (hl.below hb1) (fun j hj => by
          have := hb1.size
          rcases hj with hj | ⟨-, hj⟩
          · have := hF j hj; omega
          · omega) (Nat.le_trans hB (Nat.le_trans hs hb1.size)) hgk.len hgk.sorted (hu.below hb1) hxk (fun hn b hb hp => by
          obtain ⟨h1, h2⟩ := hE b (hlu hn b hb)
          rcases hp with hp | ⟨hp, -⟩
          · exact h2 hp
          · omega))
      have MO := Lib.hid hmod
      have SN := Lib.hid (addsZ_snoc most l (ms.take k) ms[k])
      rw [← take_snoc ms k hlt] at SN
      have hnk : (addsZ most l (ms.take k)).1 ≤ k := by rw [List.length_take] at hle; omega
      clear hF hB hg hv hE hx hvr hel hEb hu hlu hgk hxk hle hb1 hl hmod
      generalize addsZ most l (ms.take k) = pr at *
      obtain ⟨n, m⟩ := pr
      simp only at hnk
      cases hr : (addZ most m ms[k]).1
      · rw [hr] at SN
        have R := Lib.hid hr
        clear hr
        go_wp2_with fail
        refine AD.out.mono ?_
        rintro e w4 ⟨rfl, h1, h2⟩
        have ST := Lib.hid (adds_step MO.out h1 h2)
        clear h1 h2
        simp only [R.out]
        go_wp2_with fail
        go_roundg (ms.length - (k + 1))
        case measure => omega
        case rel => exact ⟨k + 1, rfl, by omega, by go_num, by rw [SN.out]; rfl, by rw [SN.out]; exact ST.out.1, ST.out.2⟩
      · rw [hr] at SN
        have R := Lib.hid hr
        clear hr
        go_wp2_with fail
        refine AD.out.mono ?_
        rintro e w4 ⟨rfl, h1, h2⟩
        have ST := Lib.hid (adds_step MO.out h1 h2)
        clear h1 h2
        simp only [R.out]
        go_wp2_with fail
        go_roundg (ms.length - (k + 1))
        case measure => omega
        case rel => exact ⟨k + 1, rfl, by omega, by go_num, by rw [SN.out]; simp, by rw [SN.out]; exact ST.out.1, ST.out.2⟩
    · obtain rfl : k = ms.length := by omega
      rw [List.take_length] at *
      go_wp2_with fail
      go_ret
      exact ⟨rfl, hl, hmod⟩

end Go.Proofs.YtpjbkaibgajpcaaGreat
