/- best: where a hit is; where it belongs. walk's document: how far a node is. best: slices of hits: one is taken out, one is put in. -/
import Derived.Test.YtpjbkaibgajpcaaGreatJ01
import Derived.Deep.DeepAppendRoom
import Derived.Laws.IdiomCopy
namespace Go.Proofs.YtpjbkaibgajpcaaGreat
open Go.RowKit
set_option maxRecDepth 20000

def posZ (id : Int) (l : List Hz) : Int := match l.findIdx? (fun x => decide (x.id = id)) with | some k => k | none => -1

theorem posZ_at {id : Int} {l : List Hz} {k : Nat} (hk : k < l.length) (hall : ∀ j (h : j < l.length), j < k → l[j].id ≠ id) (hx : l[k].id = id) : posZ id l = k := by
  have : l.findIdx? (fun x => decide (x.id = id)) = some k := by
    rw [List.findIdx?_eq_some_iff_getElem]
    exact ⟨hk, by simpa using hx, fun j hj => by simpa using hall j (by omega) hj⟩
  simp [posZ, this]

theorem posZ_none {id : Int} {l : List Hz} (hall : ∀ j (h : j < l.length), l[j].id ≠ id) : posZ id l = -1 := by
  have : l.findIdx? (fun x => decide (x.id = id)) = none := by
    rw [List.findIdx?_eq_none_iff]
    intro x hx
    obtain ⟨i, hi, rfl⟩ := List.mem_iff_getElem.1 hx
    simpa using hall i hi
  simp [posZ, this]

theorem add1 (i d : Int) (u : Value) (id : Int) (b : Nat) (w : World) (h0 : w.cell? ⟨b, 0, none⟩ = some (.int .u64 id)) :
    Calls Tryz.prog 131 #[.agg #[.int .u64 i, .int .u64 d, u], .pointer (some ⟨b, 0, none⟩)] w fun e w' => e = .returned (.bool (decide (i = id))) ∧ Below w.heap.size w w' := by
  have hb := lt_of_cell h0
  go_enter Tryz.func131, Tryz.ntmps131
  go_wp2_with fail
  go_ret
  exact ⟨ret_bool (by rw [Bool.eq_iff_iff]; simp), (Below.refl _ _).alloc (Nat.le_refl _) _⟩

theorem indexFunc (l : List Hz) (nr : Int) (v : Value) (F : Nat → Prop) (b : Nat) (w : World) (h : HitsF w F v l) (h0 : w.cell? ⟨b, 0, none⟩ = some (.int .u64 nr)) :
    Calls Tryz.prog 130 #[v, .func (.func 131) #[] #[.pointer (some ⟨b, 0, none⟩)]] w fun e w' => e = .returned (.int .i64 (posZ nr l)) ∧ Below w.heap.size w w' := by
  obtain ⟨p, cap, rfl, hcap, hbig, -, -⟩ := id h
  have hl : l.length ≤ 9223372036854775807 := by omega
  obtain ⟨rs, hrs, hsrc, hel⟩ := h.rows
  have E := Lib.hid hel
  have A := Lib.hid (fun (i d : Int) (u : Value) (wr : World) (hb : Below w.heap.size w wr) => add1 i d u nr b wr (below_cells hb h0))
  clear hcap hbig h hrs hsrc hel h0
  go_enter Tryz.func130, Tryz.ntmps130
  go_wp2_with fail
  go_loopg [5, 8] l.length (fun q _ i wr => ∃ k : Nat, q = l.length - k ∧ k ≤ l.length ∧ i = .int .i64 k ∧ (∀ j (h : j < l.length), j < k → l[j].id ≠ nr) ∧ Below w.heap.size w wr)
  case atStart => exact ⟨0, rfl, by omega, rfl, fun j _ h => absurd h (by omega), Below.refl _ _⟩
  case round =>
    obtain ⟨k, rfl, hk, rfl, hall, hb⟩ := hrel
    have O := Lib.hid (And.intro hall hb)
    by_cases hlt : k < l.length
    · obtain ⟨bb, off, up, uc, -, rfl, -, -, c0, c1, c2, -, -⟩ := E.out k hlt
      replace c0 := below_cells hb c0
      replace c1 := below_cells hb c1
      replace c2 := below_cells hb c2
      clear hall hb
      cases hx : decide (l[k].id = nr)
      · go_wp2_with fail
        refine (A.out _ _ _ _ O.out.2).mono ?_
        rintro e w' ⟨rfl, hb'⟩
        rw [hx]
        have B' := Lib.hid (O.out.2.trans (hb'.mono O.out.2.size))
        have X := Lib.hid (of_decide_eq_false hx)
        clear hb' hx
        go_wp2_with fail
        go_roundg (l.length - (k + 1))
        case measure => omega
        case rel => exact ⟨k + 1, rfl, by omega, by go_num, fun j h hj => by
          by_cases e : j = k
          · subst e; exact X.out
          · exact O.out.1 j h (by omega), B'.out⟩
      · go_wp2_with fail
        refine (A.out _ _ _ _ O.out.2).mono ?_
        rintro e w' ⟨rfl, hb'⟩
        rw [hx]
        have B' := Lib.hid (O.out.2.trans (hb'.mono O.out.2.size))
        have X := Lib.hid (of_decide_eq_true hx)
        clear hb' hx
        go_wp2_with fail
        go_ret
        exact ⟨ret_int (posZ_at hlt O.out.1 X.out).symm, B'.out⟩
    · clear hall hb
      go_wp2_with fail
      go_ret
      exact ⟨ret_int (posZ_none fun j h => O.out.1 j h (by omega)).symm, O.out.2⟩

theorem orderZ_neg (i d j e : Int) : decide (orderZ i d j e < 0) = nearB i d j e := by
  unfold orderZ
  cases nearB i d j e
  · cases nearB j e i d <;> simp
  · simp

def near (a b : Hz) : Bool := nearB a.id a.dist b.id b.dist

theorem half_i64 (i j : Nat) (h : i < j) (_hj : j ≤ 1000000) : ∃ m : Nat, m = (i + j) / 2 ∧ i ≤ m ∧ m < j := ⟨(i + j) / 2, rfl, by omega, by omega⟩

theorem bsearch (l : List Hz) (hn : l.length ≤ 1000000) (h : Hz) (u v : Value) (F : Nat → Prop) (w : World) (hl : HitsF w F v l) (c : Nat) (hc : c ≤ l.length) (h1 : ∀ k (hk : k < l.length), k < c → near l[k] h = true) (h2 : ∀ k (hk : k < l.length), c ≤ k → near l[k] h = false) :
    Calls Tryz.prog 93 #[v, .agg #[.int .u64 h.id, .int .u64 h.dist, u], .func (.func 133) #[] #[]] w fun e w' => ∃ b, e = .returned (.tuple #[.int .i64 c, .bool b]) ∧ Below w.heap.size w w' := by
  obtain ⟨p, cap, rfl, hcap, hbig, -, -⟩ := id hl
  obtain ⟨rs, hrs, hsrc, hel⟩ := hl.rows
  have E := Lib.hid hel
  have ORD := Lib.hid (fun k (hk : k < l.length) up (wr : World) => order l[k].id l[k].dist h.id h.dist up u wr)
  have C := Lib.hid (And.intro h1 h2)
  clear hcap hbig hl hrs hsrc hel h1 h2
  go_enter Tryz.func93, Tryz.ntmps93
  go_wp2_with fail
  go_loopg [9, 10, 11] l.length (fun q i j _ wr => ∃ a z : Nat, q = z - a ∧ a ≤ z ∧ z ≤ l.length ∧ i = .int .i64 a ∧ j = .int .i64 z ∧ a ≤ c ∧ c ≤ z ∧ Below (w.alloc (.cells #[.int .u64 h.id, .int .u64 h.dist, u] 38)).heap.size (w.alloc (.cells #[.int .u64 h.id, .int .u64 h.dist, u] 38)) wr)
  case atStart => exact ⟨0, l.length, rfl, by omega, by omega, rfl, rfl, by omega, hc, Below.refl _ _⟩
  case round =>
    obtain ⟨a, z, rfl, haz, hz, rfl, rfl, hac, hcz, hb⟩ := hrel
    have hb0 := (Below.refl w.heap.size w).alloc (Nat.le_refl _) (.cells #[.int .u64 h.id, .int .u64 h.dist, u] 38)
    have hbw := hb0.trans (hb.mono hb0.size)
    have B := Lib.hid (And.intro hbw hb)
    have t0 := below_cells hb (a := ⟨w.heap.size, 0, none⟩) (v := .int .u64 h.id) (by go_simp)
    have t1 := below_cells hb (a := ⟨w.heap.size, 1, none⟩) (v := .int .u64 h.dist) (by go_simp)
    have t2 := below_cells hb (a := ⟨w.heap.size, 2, none⟩) (v := u) (by go_simp)
    by_cases hlt : a < z
    · obtain ⟨m, hm, hma, hmz⟩ := half_i64 a z hlt (by omega)
      have hm2 : ((a : Int) + z) / 2 = (m : Int) := by omega
      have hml : m < l.length := by omega
      obtain ⟨bb, off, up, uc, -, rfl, -, -, c0, c1, c2, -, -⟩ := E.out m hml
      replace c0 := below_cells hbw c0
      replace c1 := below_cells hbw c1
      replace c2 := below_cells hbw c2
      clear hm hb0 hb hbw
      have NZ := Lib.hid (orderZ_neg l[m].id l[m].dist h.id h.dist)
      have OR := Lib.hid (ORD.out m hml (.slice up l[m].vec.length uc))
      have RC := Lib.hid (And.intro (C.out.1 m hml) (C.out.2 m hml))
      generalize hx : orderZ l[m].id l[m].dist h.id h.dist = x at *
      clear hx
      go_wp2_with fail
      obtain ⟨W0, hW0⟩ : ∃ W0, W0 = wr.drew := ⟨_, rfl⟩
      have B0 : Below wr.heap.size wr W0 := by rw [hW0]; exact (Below.refl _ _).drew
      replace t0 := below_cells B0 t0
      replace t1 := below_cells B0 t1
      replace t2 := below_cells B0 t2
      replace c0 := below_cells B0 c0
      replace c1 := below_cells B0 c1
      replace c2 := below_cells B0 c2
      have HW := Lib.hid hW0
      have BZ := Lib.hid (And.intro (B.out.1.trans (B0.mono B.out.1.size)) (B.out.2.trans (B0.mono B.out.2.size)))
      clear hW0 B0
      refine region_go (fun w' => w'.cell? ⟨w.heap.size, 0, none⟩ = some (.int .u64 h.id) ∧ w'.cell? ⟨w.heap.size, 1, none⟩ = some (.int .u64 h.dist) ∧ w'.cell? ⟨w.heap.size, 2, none⟩ = some u ∧ w'.cell? ⟨bb, off + m * 3, none⟩ = some (.int .u64 l[m].id) ∧ w'.cell? ⟨bb, off + m * 3 + 1, none⟩ = some (.int .u64 l[m].dist) ∧ w'.cell? ⟨bb, off + m * 3 + 1 + 1, none⟩ = some (.slice up l[m].vec.length uc)) (by kernel_rfl) ?hS0 (fun hH => ?_)
      case hS0 =>
        rw [← HW.out]; exact ⟨t0, t1, t2, c0, c1, c2⟩
      rw [← HW.out] at hH ⊢
      refine kY 0 hH ?_
      repeat simp only [Act.put, uA1, uB1, uC1]
      refine kY 1 hH ?_
      repeat simp only [Act.put, uA1, uB1, uC1]
      refine kY 2 hH ?_
      repeat simp only [Act.put, uA1, uB1, uC1]
      refine kY 3 hH ?_
      repeat simp only [Act.put, uA1, uB1, uC1]
      refine kY 4 hH ?_
      repeat simp only [Act.put, uA1, uB1, uC1]
      refine kY 5 hH ?_
      repeat simp only [Act.put, uA1, uB1, uC1]
      refine spk 6 rfl (by decide +kernel) (by rfl) (fun K' hK => ?_)
      go_simp
      refine (OR.out W0).mono ?_
      rintro e w6 ⟨rfl, hb6⟩
      try dsimp only
      refine hK.out _ _ ?hS (fun hH' => ?_)
      case hS =>
        exact ⟨below_cells hb6 t0, below_cells hb6 t1, below_cells hb6 t2, below_cells hb6 c0, below_cells hb6 c1, below_cells hb6 c2⟩
      clear hK K' hH; have hH := hH'; clear hH'; repeat simp only [Act.put, uA1, uB1, uC1]
      refine kY 7 hH ?_
      repeat simp only [Act.put, uA1, uB1, uC1]
      refine wpAnyH_done (by decide +kernel) ?_ _
      have B6 := Lib.hid (And.intro (BZ.out.1.trans (hb6.mono BZ.out.1.size)) (BZ.out.2.trans (hb6.mono BZ.out.2.size)))
      clear hH t0 t1 t2 c0 c1 c2 hb6
      have hd := NZ.out
      cases hy : near l[m] h
      · have hz : 0 ≤ x := by have := hd.trans hy; simpa using this
        have Y := Lib.hid hy
        have hcm : c ≤ m := Nat.le_of_not_lt fun hlt => by have := RC.out.1 hlt; rw [hy] at this; cases this
        clear hd hy
        go_wp2_with fail
        go_roundg (m - a)
        case measure => omega
        case rel => exact ⟨a, m, rfl, by omega, by omega, rfl, by go_num, hac, hcm, B6.out.2⟩
      · have hz : x < 0 := by have := hd.trans hy; simpa using this
        have hcm : m + 1 ≤ c := Nat.lt_of_not_le fun hle => by have := RC.out.2 hle; rw [hy] at this; cases this
        clear hd hy
        go_wp2_with fail
        go_roundg (z - (m + 1))
        case measure => omega
        case rel => exact ⟨m + 1, z, rfl, by omega, by omega, by go_num, rfl, hcm, hcz, B6.out.2⟩
    · obtain rfl : a = z := by omega
      obtain rfl : a = c := by omega
      clear hb0 hb hbw
      by_cases hal : a < l.length
      · obtain ⟨bb, off, up, uc, -, rfl, -, -, c0, c1, c2, -, -⟩ := E.out a hal
        replace c0 := below_cells B.out.1 c0
        replace c1 := below_cells B.out.1 c1
        replace c2 := below_cells B.out.1 c2
        have OR := Lib.hid (ORD.out a hal (.slice up l[a].vec.length uc))
        generalize hx : orderZ l[a].id l[a].dist h.id h.dist = x at *
        clear hx
        have hd : decide (a < l.length) = true := decide_eq_true hal
        go_wp2_with fail
        obtain ⟨W0, hW0⟩ : ∃ W0, W0 = wr.drew := ⟨_, rfl⟩
        have B0 : Below wr.heap.size wr W0 := by rw [hW0]; exact (Below.refl _ _).drew
        replace t0 := below_cells B0 t0
        replace t1 := below_cells B0 t1
        replace t2 := below_cells B0 t2
        replace c0 := below_cells B0 c0
        replace c1 := below_cells B0 c1
        replace c2 := below_cells B0 c2
        have HW := Lib.hid hW0
        have BZ := Lib.hid (B.out.1.trans (B0.mono B.out.1.size))
        clear hW0 B0
        refine region_go (fun w' => w'.cell? ⟨w.heap.size, 0, none⟩ = some (.int .u64 h.id) ∧ w'.cell? ⟨w.heap.size, 1, none⟩ = some (.int .u64 h.dist) ∧ w'.cell? ⟨w.heap.size, 2, none⟩ = some u ∧ w'.cell? ⟨bb, off + a * 3, none⟩ = some (.int .u64 l[a].id) ∧ w'.cell? ⟨bb, off + a * 3 + 1, none⟩ = some (.int .u64 l[a].dist) ∧ w'.cell? ⟨bb, off + a * 3 + 1 + 1, none⟩ = some (.slice up l[a].vec.length uc)) (by kernel_rfl) ?hS0 (fun hH => ?_)
        case hS0 =>
          rw [← HW.out]; exact ⟨t0, t1, t2, c0, c1, c2⟩
        rw [← HW.out] at hH ⊢
        refine kY 0 hH ?_
        repeat simp only [Act.put, uA1, uB1, uC1]
        refine kY 1 hH ?_
        repeat simp only [Act.put, uA1, uB1, uC1]
        refine kY 2 hH ?_
        repeat simp only [Act.put, uA1, uB1, uC1]
        refine kY 3 hH ?_
        repeat simp only [Act.put, uA1, uB1, uC1]
        refine kY 4 hH ?_
        repeat simp only [Act.put, uA1, uB1, uC1]
        refine kY 5 hH ?_
        repeat simp only [Act.put, uA1, uB1, uC1]
        refine kY 6 hH ?_
        repeat simp only [Act.put, uA1, uB1, uC1]
        refine kY 7 hH ?_
        repeat simp only [Act.put, uA1, uB1, uC1]
        refine kY 8 hH ?_
        repeat simp only [Act.put, uA1, uB1, uC1]
        refine kY 9 hH ?_
        repeat simp only [Act.put, uA1, uB1, uC1]
        refine kY 10 hH ?_
        repeat simp only [Act.put, uA1, uB1, uC1]
        refine spk 11 rfl (by decide +kernel) (by rfl) (fun K' hK => ?_)
        go_simp
        refine (OR.out W0).mono ?_
        rintro e w6 ⟨rfl, hb6⟩
        try dsimp only
        refine hK.out _ _ ?hS (fun hH' => ?_)
        case hS =>
          exact ⟨below_cells hb6 t0, below_cells hb6 t1, below_cells hb6 t2, below_cells hb6 c0, below_cells hb6 c1, below_cells hb6 c2⟩
        clear hK K' hH; have hH := hH'; clear hH'; repeat simp only [Act.put, uA1, uB1, uC1]
        refine kY 12 hH ?_
        repeat simp only [Act.put, uA1, uB1, uC1]
        refine kY 13 hH ?_
        repeat simp only [Act.put, uA1, uB1, uC1]
        refine kY 14 hH ?_
        repeat simp only [Act.put, uA1, uB1, uC1]
        refine kY 15 hH ?_
        repeat simp only [Act.put, uA1, uB1, uC1]
        refine wpAnyH_done (by decide +kernel) ?_ _
        have B6 := Lib.hid (BZ.out.trans (hb6.mono BZ.out.size))
        clear hH t0 t1 t2 c0 c1 c2 hb6
        go_wp2_with fail
        go_ret2
        exact ⟨_, rfl, B6.out⟩
      · have hd : decide (a < l.length) = false := decide_eq_false hal
        go_wp2_with fail
        go_quiet (fail)
        rename_i nq
        go_wp2_with fail
        go_ret2
        exact ⟨_, rfl, below_drewN B.out.1 nq⟩

end Go.Proofs.YtpjbkaibgajpcaaGreat

namespace Go.Proofs.YtpjbkaibgajpcaaGreat
open Go.RowKit
set_option maxRecDepth 20000

def farL (l : List Hz) (k : Int) : Option Int := (l.find? fun h => decide (h.id = k)).map (·.dist)

theorem farL_take {l : List Hz} {k : Int} {j : Nat} (hj : j < l.length) (hall : ∀ i (hi : i < l.length), i < j → l[i].id ≠ k) (he : l[j].id = k) : farL l k = some l[j].dist := by
  unfold farL
  have : l.find? (fun h => decide (h.id = k)) = some l[j] := by
    rw [List.find?_eq_some_iff_getElem]
    exact ⟨by simpa using he, j, hj, rfl, fun i hi => by simpa using hall i (by omega) hi⟩
  rw [this]
  rfl

theorem farL_none {l : List Hz} {k : Int} (hall : ∀ i (hi : i < l.length), l[i].id ≠ k) : farL l k = none := by
  unfold farL
  rw [List.find?_eq_none.2]
  · rfl
  · intro x hx
    obtain ⟨i, hi, rfl⟩ := List.mem_iff_getElem.1 hx
    simpa using hall i hi

set_option maxHeartbeats 4000000 in
theorem refFar (w : World) (x : Nat) (lv : Value) (F : Nat → Prop) (l : List Hz) (k : Int) (hx : w.cell? ⟨x, 1, none⟩ = some lv) (hl : HitsF w F lv l) :
    Calls Tryz.prog 103 #[.pointer (some ⟨x, 0, none⟩), .int .u64 k] w fun e w' => ∃ v, e = .returned v ∧ v = .tuple #[.int .u64 ((farL l k).getD 0), .bool (farL l k).isSome] ∧ Below w.heap.size w w' := by
  obtain ⟨p, cap, rfl, hcap, hbig, -, -⟩ := id hl
  obtain ⟨rs, hrs, hsrc, hel⟩ := hl.rows
  have E := Lib.hid hel
  have hln : l.length ≤ 9223372036854775807 := by omega
  clear hcap hbig hl hrs hsrc hel
  go_enter Tryz.func103, Tryz.ntmps103
  go_wp2_with fail
  go_loopg [13] l.length (fun q i wr => ∃ j : Nat, q = l.length - j ∧ j ≤ l.length ∧ i = .int .i64 j ∧ (∀ i (hi : i < l.length), i < j → l[i].id ≠ k) ∧ Below w.heap.size w wr)
  case atStart => exact ⟨0, rfl, by omega, rfl, by omega, Below.refl _ _⟩
  case round =>
    obtain ⟨j, rfl, hj, rfl, hall, hb⟩ := hrel
    by_cases hlt : j < l.length
    · obtain ⟨b, off, up, uc, -, rfl, -, -, c0, c1, c2, -, -⟩ := E.out j hlt
      replace c0 := below_cells hb c0
      replace c1 := below_cells hb c1
      replace c2 := below_cells hb c2
      have B := Lib.hid (hb.alloc hb.size (.cells #[.int .u64 l[j].id, .int .u64 l[j].dist, .slice up l[j].vec.length uc] 38))
      have HA := Lib.hid hall
      clear hb hall
      by_cases he : l[j].id = k
      · have HF := Lib.hid (farL_take hlt HA.out he)
        have hd : (l[j].id == k) = true := by simp [he]
        have HE := Lib.hid he
        clear he
        go_wp2_with fail
        go_ret2
        exact ⟨_, rfl, by rw [HF.out]; rfl, B.out⟩
      · have hd : (l[j].id == k) = false := by simp [he]
        have HE := Lib.hid he
        clear he
        go_wp2_with fail
        go_roundg (l.length - (j + 1))
        case measure => omega
        case rel =>
          refine ⟨j + 1, rfl, by omega, by go_num, fun i hi hij => ?_, B.out⟩
          rcases Nat.lt_succ_iff_lt_or_eq.1 hij with h | h
          · exact HA.out i hi h
          · subst h; exact HE.out
    · obtain rfl : j = l.length := by omega
      have HF := Lib.hid (farL_none (k := k) fun i hi => hall i hi hi)
      have B := Lib.hid hb
      clear hall hb
      go_wp2_with fail
      go_ret2
      exact ⟨_, rfl, by rw [HF.out]; rfl, B.out⟩

end Go.Proofs.YtpjbkaibgajpcaaGreat

namespace Go.Proofs.YtpjbkaibgajpcaaGreat
open Go.RowKit
set_option maxRecDepth 20000

theorem rowHit : RowTy Tryz.prog 30 38 3 40 (.agg #[.int .u64 0, .int .u64 0, .slice none 0 0]) := ⟨Tryz.underlying30, by kernel_rfl, rfl, by decide⟩

theorem own_prefix {w : World} {base e size g n cap k : Nat} {xs : List Value} (h : w.ownsRow base e size (.slice (some ⟨g, 0, none⟩) n cap) n xs) (hk : k ≤ n) : w.ownsRow base e size (.slice (some ⟨g, 0, none⟩) k cap) k (xs.take (k * size)) := by
  obtain ⟨h1, ⟨h2, _⟩ | ⟨g', cap', cur, hv, hb, hh, hn, hm, hs, ht⟩⟩ := h
  · cases h2
  · obtain ⟨ha, _, hc⟩ := Value.slice.inj hv
    simp only [Option.some.injEq, Addr.mk.injEq, and_true] at ha
    subst ha; subst hc
    have hle : k * size ≤ n * size := Nat.mul_le_mul_right _ hk
    refine ⟨by simp only [List.length_take]; omega, .inr ⟨g, cap, cur, rfl, hb, hh, by omega, hm, hs, ?_⟩⟩
    rw [← ht, List.take_take, show min (k * size) (n * size) = k * size by omega]

theorem own_cap {w : World} {base e size g n cap : Nat} {xs : List Value} (h : w.ownsRow base e size (.slice (some ⟨g, 0, none⟩) n cap) n xs) : n ≤ cap ∧ cap ≤ maxLen ∧ ∃ cur : Array Value, w.heap[g]? = some (.cells cur e (0, 0)) ∧ cur.size = cap * size := by
  obtain ⟨h1, ⟨h2, _⟩ | ⟨g', cap', cur, hv, hb, hh, hn, hm, hs, ht⟩⟩ := h
  · cases h2
  · obtain ⟨ha, _, hc⟩ := Value.slice.inj hv
    simp only [Option.some.injEq, Addr.mk.injEq, and_true] at ha
    subst ha; subst hc
    exact ⟨hn, hm, cur, hh, hs⟩

theorem own_setCell_far {w : World} {base e size g n cap o : Nat} {xs : List Value} (h : w.ownsRow base e size (.slice (some ⟨g, 0, none⟩) n cap) n xs) (ho : n * size ≤ o) (u : Value) : (w.setCell ⟨g, o, none⟩ u).ownsRow base e size (.slice (some ⟨g, 0, none⟩) n cap) n xs := by
  obtain ⟨h1, ⟨h2, _⟩ | ⟨g', cap', cur, hv, hb, hh, hn, hm, hs, ht⟩⟩ := h
  · cases h2
  · obtain ⟨ha, _, hc⟩ := Value.slice.inj hv
    simp only [Option.some.injEq, Addr.mk.injEq, and_true] at ha
    subst ha; subst hc
    refine ⟨h1, .inr ⟨g, cap, cur.setIfInBounds o u, rfl, hb, ?_, hn, hm, by simpa using hs, ?_⟩⟩
    · simp [World.setCell, Array.getElem?_modify, hh]
    · rw [← ht]
      simp only [Array.toList_setIfInBounds]
      rw [List.take_set_of_le ho]

theorem own_setCells_far {base e size g n cap : Nat} : ∀ (vs : List Value) (o : Nat) (w : World) (xs : List Value), w.ownsRow base e size (.slice (some ⟨g, 0, none⟩) n cap) n xs → n * size ≤ o → (w.setCells g o vs).ownsRow base e size (.slice (some ⟨g, 0, none⟩) n cap) n xs
  | [], _, _, _, h, _ => h
  | u :: r, o, w, xs, h, ho => by
    rw [World.setCells]
    exact own_setCells_far r (o + 1) _ _ (own_setCell_far h ho u) (by omega)

theorem mod_setCells {F : Nat → Prop} {w0 w : World} (h : Mod F w0 w) {g : Nat} (hg : F g ∨ w0.heap.size ≤ g) : ∀ (vs : List Value) (o : Nat) , Mod F w0 (w.setCells g o vs) := by
  intro vs o
  exact h.grown (grownBy_setCells g vs o w) (fun k hk => by cases hk; exact hg)

theorem run_clear1 {w : World} {base g n cap o : Nat} {xs : List Value} (h : w.ownsRow base 38 3 (.slice (some ⟨g, 0, none⟩) n cap) n xs) (ho : o + 3 ≤ cap * 3) (c ty : Nat) :
    (Builtin.clear_ #[30] ty #[.slice (some ⟨g, o, none⟩) 1 c]).run Tryz.prog w = .ok (.tuple #[]) (w.setCells g o [.int .u64 0, .int .u64 0, .slice none 0 0]) := by
  obtain ⟨_, _, cur, hh, hs⟩ := own_cap h
  have hst := run_storeCells_cells (P := Tryz.prog) g o [.int .u64 0, .int .u64 0, .slice none 0 0] 0 w (fun j hj => by
    have : o + j < cur.size := by simp at hj; omega
    simp [World.cell?, hh, this]) (fun j hj => by simp [World.frozen?, hh]) (by simp [Value.oneCell'])
  simp only [Nat.add_zero] at hst
  have hz : (Builtin.zeroCells (Value.agg #[.int .u64 0, .int .u64 0, .slice none 0 0]).cells 1).toList = [.int .u64 0, .int .u64 0, .slice none 0 0] := by kernel_rfl
  simp [Builtin.clear_, run_underlying Tryz.underlying30, hz, hst]

end Go.Proofs.YtpjbkaibgajpcaaGreat
