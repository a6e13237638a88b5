/-
  walk: the order of what is to be gone to; where a node belongs in it.
  best: is there no room?
-/
import Derived.Test.YtpjbkaibgajpcaaJ03
import Derived.Test.YtpjbkaibgajpcaaJ06
namespace Go.Proofs.Ytpjbkaibgajpcaa
open Go.RowKit

/-- of two: the farther one goes ahead -/
def ordW (i d j e : Int) : Int := if nearB i d j e = true then 1 else if nearB j e i d = true then -1 else 0

theorem orderW (i d j e : Int) (v u : Value) (w : World) :
    Calls Try.prog 57 #[.agg #[.int .u64 i, .int .u64 d, v], .agg #[.int .u64 j, .int .u64 e, u]] w fun r w' => r = .returned (.int .i64 (ordW i d j e)) ∧ Below w.heap.size w w' := by
  have N1 := Lib.hid (fun W => nearer i d j e v u W)
  have N2 := Lib.hid (fun W => nearer j e i d u v W)
  have E := Lib.hid (show ordW i d j e = if nearB i d j e = true then 1 else if nearB j e i d = true then -1 else 0 from rfl)
  generalize ordW i d j e = x at *
  generalize nearB i d j e = p at *
  generalize nearB j e i d = q at *
  go_enter Try.func57, Try.ntmps57
  go_wp2_with fail
  have hb0 : Below w.heap.size w ((w.alloc (.cells #[.int .u64 i, .int .u64 d, v] 45)).alloc (.cells #[.int .u64 j, .int .u64 e, u] 45)) := ((Below.refl _ _).alloc (Nat.le_refl _) _).alloc (by simp) _
  have B0 := Lib.hid hb0
  clear hb0
  refine (N1.out _).mono ?_
  rintro r w1 ⟨rfl, hb1⟩
  obtain ⟨hc, hf⟩ := cells_same hb1
  have B1 := Lib.hid (B0.out.trans (hb1.mono B0.out.size))
  clear hb1
  cases p
  · go_wp2_with fail
    refine (N2.out _).mono ?_
    rintro r w2 ⟨rfl, hb2⟩
    have B2 := Lib.hid (B1.out.trans (hb2.mono B1.out.size))
    clear hb2
    cases q
    all_goals
      go_wp2_with fail
      go_ret
      exact ⟨ret_int (by rw [E.out]; rfl), B2.out⟩
  · go_wp2_with fail
    go_ret
    exact ⟨ret_int (by rw [E.out]; rfl), B1.out⟩

theorem ordW_neg (i d j e : Int) : decide (ordW i d j e < 0) = nearB j e i d := by
  unfold ordW
  cases h : nearB i d j e
  · cases nearB j e i d <;> simp
  · have : nearB j e i d = false := by
      simp only [nearB, Bool.or_eq_true, Bool.and_eq_true, decide_eq_true_eq, Bool.or_eq_false_iff, Bool.and_eq_false_iff, decide_eq_false_iff_not] at h ⊢
      omega
    rw [this]
    simp

theorem bsearchW (l : List Hz) (hn : l.length ≤ 1000000) (h : Hz) (u v : Value) (F : Nat → Prop) (w : World) (hl : HitsF w F v l) (c : Nat) (hc : c ≤ l.length) (h1 : ∀ k (hk : k < l.length), k < c → near h l[k] = true) (h2 : ∀ k (hk : k < l.length), c ≤ k → near h l[k] = false) :
    Calls Try.prog 56 #[v, .agg #[.int .u64 h.id, .int .u64 h.dist, u], .func (.func 57) #[] #[]] w fun e w' => ∃ b, e = .returned (.tuple #[.int .i64 c, .bool b]) ∧ Below w.heap.size w w' := by
  obtain ⟨p, cap, rfl, hcap, hbig, -, -⟩ := id hl
  obtain ⟨rs, hrs, hsrc, hel⟩ := hl.rows
  have E := Lib.hid hel
  have ORD := Lib.hid (fun k (hk : k < l.length) up (wr : World) => orderW l[k].id l[k].dist h.id h.dist up u wr)
  have C := Lib.hid (And.intro h1 h2)
  clear hcap hbig hl hrs hsrc hel h1 h2
  go_enter Try.func56, Try.ntmps56
  go_wp2_with fail
  go_loopg [9, 10, 11] l.length (fun q i j _ wr => ∃ a z : Nat, q = z - a ∧ a ≤ z ∧ z ≤ l.length ∧ i = .int .i64 a ∧ j = .int .i64 z ∧ a ≤ c ∧ c ≤ z ∧ Below (w.alloc (.cells #[.int .u64 h.id, .int .u64 h.dist, u] 45)).heap.size (w.alloc (.cells #[.int .u64 h.id, .int .u64 h.dist, u] 45)) wr)
  case atStart => exact ⟨0, l.length, rfl, by omega, by omega, rfl, rfl, by omega, hc, Below.refl _ _⟩
  case round =>
    obtain ⟨a, z, rfl, haz, hz, rfl, rfl, hac, hcz, hb⟩ := hrel
    have hb0 := (Below.refl w.heap.size w).alloc (Nat.le_refl _) (.cells #[.int .u64 h.id, .int .u64 h.dist, u] 45)
    have hbw := hb0.trans (hb.mono hb0.size)
    have B := Lib.hid (And.intro hbw hb)
    have t0 := below_cells hb (a := ⟨w.heap.size, 0, none⟩) (v := .int .u64 h.id) (by go_simp)
    have t1 := below_cells hb (a := ⟨w.heap.size, 1, none⟩) (v := .int .u64 h.dist) (by go_simp)
    have t2 := below_cells hb (a := ⟨w.heap.size, 2, none⟩) (v := u) (by go_simp)
    by_cases hlt : a < z
    · obtain ⟨m, hm, hma, hmz⟩ := half_i64 a z hlt (by omega)
      have hm2 : ((a : Int) + z) / 2 = (m : Int) := by omega
      have hml : m < l.length := by omega
      obtain ⟨bb, off, up, uc, -, rfl, -, -, c0, c1, c2, -, -⟩ := E.out m hml
      replace c0 := below_cells hbw c0
      replace c1 := below_cells hbw c1
      replace c2 := below_cells hbw c2
      clear hm hb0 hb hbw
      have NZ := Lib.hid (ordW_neg l[m].id l[m].dist h.id h.dist)
      have OR := Lib.hid (ORD.out m hml (.slice up l[m].vec.length uc))
      have RC := Lib.hid (And.intro (C.out.1 m hml) (C.out.2 m hml))
      generalize hx : ordW l[m].id l[m].dist h.id h.dist = x at *
      clear hx
      go_wp2_with fail
      obtain ⟨W0, hW0⟩ : ∃ W0, W0 = wr.drew := ⟨_, rfl⟩
      have B0 : Below wr.heap.size wr W0 := by rw [hW0]; exact (Below.refl _ _).drew
      replace t0 := below_cells B0 t0
      replace t1 := below_cells B0 t1
      replace t2 := below_cells B0 t2
      replace c0 := below_cells B0 c0
      replace c1 := below_cells B0 c1
      replace c2 := below_cells B0 c2
      have HW := Lib.hid hW0
      have BZ := Lib.hid (And.intro (B.out.1.trans (B0.mono B.out.1.size)) (B.out.2.trans (B0.mono B.out.2.size)))
      clear hW0 B0
      refine region_go (fun w' => w'.cell? ⟨w.heap.size, 0, none⟩ = some (.int .u64 h.id) ∧ w'.cell? ⟨w.heap.size, 1, none⟩ = some (.int .u64 h.dist) ∧ w'.cell? ⟨w.heap.size, 2, none⟩ = some u ∧ w'.cell? ⟨bb, off + m * 3, none⟩ = some (.int .u64 l[m].id) ∧ w'.cell? ⟨bb, off + m * 3 + 1, none⟩ = some (.int .u64 l[m].dist) ∧ w'.cell? ⟨bb, off + m * 3 + 1 + 1, none⟩ = some (.slice up l[m].vec.length uc)) (by kernel_rfl) ?hS0 (fun hH => ?_)
      case hS0 =>
        rw [← HW.out]; exact ⟨t0, t1, t2, c0, c1, c2⟩
      rw [← HW.out] at hH ⊢
      refine kY 0 hH ?_
      repeat simp only [Act.put, uA1, uB1, uC1]
      refine kY 1 hH ?_
      repeat simp only [Act.put, uA1, uB1, uC1]
      refine kY 2 hH ?_
      repeat simp only [Act.put, uA1, uB1, uC1]
      refine kY 3 hH ?_
      repeat simp only [Act.put, uA1, uB1, uC1]
      refine kY 4 hH ?_
      repeat simp only [Act.put, uA1, uB1, uC1]
      refine kY 5 hH ?_
      repeat simp only [Act.put, uA1, uB1, uC1]
      refine spk 6 rfl (by decide +kernel) (by rfl) (fun K' hK => ?_)
      go_simp
      refine (OR.out W0).mono ?_
      rintro e w6 ⟨rfl, hb6⟩
      try dsimp only
      refine hK.out _ _ ?hS (fun hH' => ?_)
      case hS =>
        exact ⟨below_cells hb6 t0, below_cells hb6 t1, below_cells hb6 t2, below_cells hb6 c0, below_cells hb6 c1, below_cells hb6 c2⟩
      clear hK K' hH; have hH := hH'; clear hH'; repeat simp only [Act.put, uA1, uB1, uC1]
      refine kY 7 hH ?_
      repeat simp only [Act.put, uA1, uB1, uC1]
      refine wpAnyH_done (by decide +kernel) ?_ _
      have B6 := Lib.hid (And.intro (BZ.out.1.trans (hb6.mono BZ.out.1.size)) (BZ.out.2.trans (hb6.mono BZ.out.2.size)))
      clear hH t0 t1 t2 c0 c1 c2 hb6
      have hd := NZ.out
      cases hy : near h l[m]
      · have hz : 0 ≤ x := by have := hd.trans hy; simpa using this
        have Y := Lib.hid hy
        have hcm : c ≤ m := Nat.le_of_not_lt fun hlt => by have := RC.out.1 hlt; rw [hy] at this; cases this
        clear hd hy
        go_wp2_with fail
        go_roundg (m - a)
        case measure => omega
        case rel => exact ⟨a, m, rfl, by omega, by omega, rfl, by go_num, hac, hcm, B6.out.2⟩
      · have hz : x < 0 := by have := hd.trans hy; simpa using this
        have hcm : m + 1 ≤ c := Nat.lt_of_not_le fun hle => by have := RC.out.2 hle; rw [hy] at this; cases this
        clear hd hy
        go_wp2_with fail
        go_roundg (z - (m + 1))
        case measure => omega
        case rel => exact ⟨m + 1, z, rfl, by omega, by omega, by go_num, rfl, hcm, hcz, B6.out.2⟩
    · obtain rfl : a = z := by omega
      obtain rfl : a = c := by omega
      clear hb0 hb hbw
      by_cases hal : a < l.length
      · obtain ⟨bb, off, up, uc, -, rfl, -, -, c0, c1, c2, -, -⟩ := E.out a hal
        replace c0 := below_cells B.out.1 c0
        replace c1 := below_cells B.out.1 c1
        replace c2 := below_cells B.out.1 c2
        have OR := Lib.hid (ORD.out a hal (.slice up l[a].vec.length uc))
        generalize hx : ordW l[a].id l[a].dist h.id h.dist = x at *
        clear hx
        have hd : decide (a < l.length) = true := decide_eq_true hal
        go_wp2_with fail
        obtain ⟨W0, hW0⟩ : ∃ W0, W0 = wr.drew := ⟨_, rfl⟩
        have B0 : Below wr.heap.size wr W0 := by rw [hW0]; exact (Below.refl _ _).drew
        replace t0 := below_cells B0 t0
        replace t1 := below_cells B0 t1
        replace t2 := below_cells B0 t2
        replace c0 := below_cells B0 c0
        replace c1 := below_cells B0 c1
        replace c2 := below_cells B0 c2
        have HW := Lib.hid hW0
        have BZ := Lib.hid (B.out.1.trans (B0.mono B.out.1.size))
        clear hW0 B0
        refine region_go (fun w' => w'.cell? ⟨w.heap.size, 0, none⟩ = some (.int .u64 h.id) ∧ w'.cell? ⟨w.heap.size, 1, none⟩ = some (.int .u64 h.dist) ∧ w'.cell? ⟨w.heap.size, 2, none⟩ = some u ∧ w'.cell? ⟨bb, off + a * 3, none⟩ = some (.int .u64 l[a].id) ∧ w'.cell? ⟨bb, off + a * 3 + 1, none⟩ = some (.int .u64 l[a].dist) ∧ w'.cell? ⟨bb, off + a * 3 + 1 + 1, none⟩ = some (.slice up l[a].vec.length uc)) (by kernel_rfl) ?hS0 (fun hH => ?_)
        case hS0 =>
          rw [← HW.out]; exact ⟨t0, t1, t2, c0, c1, c2⟩
        rw [← HW.out] at hH ⊢
        refine kY 0 hH ?_
        repeat simp only [Act.put, uA1, uB1, uC1]
        refine kY 1 hH ?_
        repeat simp only [Act.put, uA1, uB1, uC1]
        refine kY 2 hH ?_
        repeat simp only [Act.put, uA1, uB1, uC1]
        refine kY 3 hH ?_
        repeat simp only [Act.put, uA1, uB1, uC1]
        refine kY 4 hH ?_
        repeat simp only [Act.put, uA1, uB1, uC1]
        refine kY 5 hH ?_
        repeat simp only [Act.put, uA1, uB1, uC1]
        refine kY 6 hH ?_
        repeat simp only [Act.put, uA1, uB1, uC1]
        refine kY 7 hH ?_
        repeat simp only [Act.put, uA1, uB1, uC1]
        refine kY 8 hH ?_
        repeat simp only [Act.put, uA1, uB1, uC1]
        refine kY 9 hH ?_
        repeat simp only [Act.put, uA1, uB1, uC1]
        refine kY 10 hH ?_
        repeat simp only [Act.put, uA1, uB1, uC1]
        refine spk 11 rfl (by decide +kernel) (by rfl) (fun K' hK => ?_)
        go_simp
        refine (OR.out W0).mono ?_
        rintro e w6 ⟨rfl, hb6⟩
        try dsimp only
        refine hK.out _ _ ?hS (fun hH' => ?_)
        case hS =>
          exact ⟨below_cells hb6 t0, below_cells hb6 t1, below_cells hb6 t2, below_cells hb6 c0, below_cells hb6 c1, below_cells hb6 c2⟩
        clear hK K' hH; have hH := hH'; clear hH'; repeat simp only [Act.put, uA1, uB1, uC1]
        refine kY 12 hH ?_
        repeat simp only [Act.put, uA1, uB1, uC1]
        refine kY 13 hH ?_
        repeat simp only [Act.put, uA1, uB1, uC1]
        refine kY 14 hH ?_
        repeat simp only [Act.put, uA1, uB1, uC1]
        refine kY 15 hH ?_
        repeat simp only [Act.put, uA1, uB1, uC1]
        refine wpAnyH_done (by decide +kernel) ?_ _
        have B6 := Lib.hid (BZ.out.trans (hb6.mono BZ.out.size))
        clear hH t0 t1 t2 c0 c1 c2 hb6
        go_wp2_with fail
        go_ret2
        exact ⟨_, rfl, B6.out⟩
      · have hd : decide (a < l.length) = false := decide_eq_false hal
        go_wp2_with fail
        go_quiet (fail)
        rename_i nq
        go_wp2_with fail
        go_ret2
        exact ⟨_, rfl, below_drewN B.out.1 nq⟩

end Go.Proofs.Ytpjbkaibgajpcaa

namespace Go.Proofs.Ytpjbkaibgajpcaa
open Go.RowKit

theorem full (B c : Nat) (most : Int) (v : Value) (rs : List Hv) (G : Nat → Prop) (l : List Hz) (w : World) (h : ListOwn w B c most v rs G l) :
    Calls Try.prog 60 #[.pointer (some ⟨c, 0, none⟩)] w fun e w' => e = .returned (.bool ((l.length : Int) == most)) ∧ Drawn w w' := by
  obtain ⟨p, cap, rfl, -, -, -, -⟩ := h.hits
  obtain ⟨c0, c1, -⟩ := h.cells
  clear h
  go_enter Try.func60, Try.ntmps60
  go_wp2_with fail
  go_quiet (fail)
  rename_i nq
  go_wp2_with fail
  go_ret
  exact ⟨rfl, ⟨nq, rfl⟩⟩

end Go.Proofs.Ytpjbkaibgajpcaa
