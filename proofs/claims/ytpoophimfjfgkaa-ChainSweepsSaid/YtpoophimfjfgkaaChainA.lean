/-
  chain: how many versions lie at or below a stamp (sort.Search over the stamps).
-/
import Derived.Test.YtpoophimfjfgkaaCut
import Derived.Test.YtpoophimfjfgkaaSame
import Derived.Test.YtpoophimfjfgkaaStore
namespace Go.Proofs.Ytpoophimfjfgkaa
open Go.RowKit

/-- how many of them, from the first on, are at or below s -/
def cntZ (s : Int) (l : List (Int × List Int)) : Nat := (l.takeWhile fun r => decide (r.1 ≤ s)).length

/-- the stamps rise -/
def Rising (l : List (Int × List Int)) : Prop := l.Pairwise fun a b => a.1 < b.1

theorem cntZ_le (s : Int) (l : List (Int × List Int)) : cntZ s l ≤ l.length := (List.takeWhile_sublist _).length_le

theorem cntZ_eq (s : Int) (l : List (Int × List Int)) (k : Nat) (hk : k ≤ l.length) (h1 : ∀ j (h : j < l.length), j < k → l[j].1 ≤ s) (h2 : ∀ j (h : j < l.length), k ≤ j → s < l[j].1) : cntZ s l = k := by
  unfold cntZ
  induction l generalizing k with
  | nil => simp at hk; simp [hk]
  | cons r l ih =>
    cases k with
    | zero =>
      have := h2 0 (by simp) (by omega)
      simp only [List.getElem_cons_zero] at this
      have : decide (r.1 ≤ s) = false := by simp; omega
      simp [List.takeWhile_cons, this]
    | succ k =>
      have := h1 0 (by simp) (by omega)
      simp only [List.getElem_cons_zero] at this
      simp only [List.takeWhile_cons, this, decide_true, if_true, List.length_cons]
      rw [ih k (by simpa using hk) (fun j h hj => by have := h1 (j + 1) (by simp; omega) (by omega); simpa using this) (fun j h hj => by have := h2 (j + 1) (by simp; omega) (by omega); simpa using this)]

theorem after1 (l : List (Int × List Int)) (i : Nat) (hi : i < l.length) (s : Int) (b b' c : Nat) (v : Value) (w : World) (h0 : w.cell? ⟨b, 0, none⟩ = some (.pointer (some ⟨c, 0, none⟩))) (h1 : w.cell? ⟨b', 0, none⟩ = some (.int .u64 s))
    (h2 : w.cell? ⟨c, 0, none⟩ = some v) (h : Recs w v l) :
    Calls Try.prog 31 #[.int .i64 i, .pointer (some ⟨b, 0, none⟩), .pointer (some ⟨b', 0, none⟩)] w fun e w' => e = .returned (.bool (decide (s < l[i].1))) ∧ Drawn w w' := by
  obtain ⟨p, cap, rfl, hcap, hbig, -, -⟩ := id h
  have hl : l.length ≤ 9223372036854775807 := by omega
  clear hcap hbig
  obtain ⟨g, off, u, rfl, c0, c1, -⟩ := h.elem hi
  clear h
  have k1 : (i : Int) < (l.length : Int) := by omega
  go_enter Try.func31, Try.ntmps31
  go_wp2_with fail
  go_quiet (fail)
  rename_i nq
  go_wp2_with fail
  go_ret
  exact ⟨rfl, ⟨nq, rfl⟩⟩

theorem rising_lt {l : List (Int × List Int)} (h : Rising l) {i j : Nat} (hi : i < l.length) (hj : j < l.length) (hij : i < j) : l[i].1 < l[j].1 := List.pairwise_iff_getElem.1 h i j hi hj hij

theorem Drawn.trans {w w' w'' : World} (h : Drawn w w') (g : Drawn w' w'') : Drawn w w'' := by
  obtain ⟨n, rfl⟩ := g
  exact h.drewN n

theorem half_i64 (i j : Nat) (h : i < j) (hj : j ≤ 1000000) : ∃ m : Nat, m = (i + j) / 2 ∧ i ≤ m ∧ m < j := ⟨(i + j) / 2, rfl, by omega, by omega⟩

theorem search (l : List (Int × List Int)) (hr : Rising l) (hn : l.length ≤ 1000000) (s : Int) (b b' c : Nat) (v : Value) (w : World) (h0 : w.cell? ⟨b, 0, none⟩ = some (.pointer (some ⟨c, 0, none⟩))) (h1 : w.cell? ⟨b', 0, none⟩ = some (.int .u64 s))
    (h2 : w.cell? ⟨c, 0, none⟩ = some v) (h : Recs w v l) :
    Calls Try.prog 30 #[.int .i64 l.length, .func (.func 31) #[] #[.pointer (some ⟨b, 0, none⟩), .pointer (some ⟨b', 0, none⟩)]] w fun e w' => e = .returned (.int .i64 (cntZ s l)) ∧ Drawn w w' := by
  have A := Lib.hid (fun (wr : World) (hd : Drawn w wr) (i : Nat) (hi : i < l.length) => after1 l i hi s b b' c v wr (below_cells hd.below h0) (below_cells hd.below h1) (below_cells hd.below h2) (h.below hd.below))
  clear h0 h1 h2 h
  have R := Lib.hid hr
  clear hr
  go_enter Try.func30, Try.ntmps30
  go_wp2_with fail
  go_loopg [5, 6, 7] l.length (fun q i j _ wr => ∃ a z : Nat, q = z - a ∧ a ≤ z ∧ z ≤ l.length ∧ i = .int .i64 a ∧ j = .int .i64 z ∧ (∀ k (h : k < l.length), k < a → l[k].1 ≤ s) ∧ (∀ k (h : k < l.length), z ≤ k → s < l[k].1) ∧ Drawn w wr)
  case atStart => exact ⟨0, l.length, rfl, by omega, by omega, rfl, rfl, fun k h hk => absurd hk (by omega), fun k h hk => absurd hk (by omega), Drawn.refl _⟩
  case round =>
    obtain ⟨a, z, rfl, haz, hz, rfl, rfl, hlo, hhi, hd⟩ := hrel
    have H := Lib.hid (And.intro hlo (And.intro hhi hd))
    clear hlo hhi hd
    by_cases hlt : a < z
    · obtain ⟨m, hm, hma, hmz⟩ := half_i64 a z hlt (by omega)
      have hm2 : ((a : Int) + z) / 2 = (m : Int) := by omega
      have hml : m < l.length := by omega
      clear hm
      cases hx : decide (s < l[m].1)
      · go_wp2_with fail
        refine (A.out wr H.out.2.2 m hml).mono ?_
        rintro e w' ⟨rfl, hd'⟩
        rw [hx]
        have D := Lib.hid (And.intro hd' hx)
        clear hd' hx
        go_wp2_with fail
        go_roundg (z - (m + 1))
        case measure => omega
        case rel =>
          refine ⟨m + 1, z, rfl, by omega, hz, by go_num, rfl, fun k h hk => ?_, H.out.2.1, H.out.2.2.trans D.out.1⟩
          have h1 := of_decide_eq_false D.out.2
          by_cases e : k = m
          · subst e; omega
          · have := rising_lt R.out h hml (by omega)
            omega
      · go_wp2_with fail
        refine (A.out wr H.out.2.2 m hml).mono ?_
        rintro e w' ⟨rfl, hd'⟩
        rw [hx]
        have D := Lib.hid (And.intro hd' hx)
        clear hd' hx
        go_wp2_with fail
        go_roundg (m - a)
        case measure => omega
        case rel =>
          refine ⟨a, m, rfl, by omega, by omega, rfl, by go_num, H.out.1, fun k h hk => ?_, H.out.2.2.trans D.out.1⟩
          have h1 := of_decide_eq_true D.out.2
          by_cases e : k = m
          · subst e; omega
          · have := rising_lt R.out hml h (by omega)
            omega
    · obtain rfl : a = z := by omega
      go_wp2_with fail
      go_ret
      exact ⟨ret_int (by rw [cntZ_eq s l a hz H.out.1 H.out.2.1]), H.out.2.2⟩

/-- the chain's own cell c holds v, which reads as l -/
structure ChainIs (w : World) (c : Nat) (v : Value) (l : List (Int × List Int)) : Prop where
  cell : w.cell? ⟨c, 0, none⟩ = some v
  recs : Recs w v l

theorem ChainIs.below {w w' : World} {c : Nat} {v : Value} {l : List (Int × List Int)} (h : ChainIs w c v l) (hb : Below w.heap.size w w') : ChainIs w' c v l := ⟨below_cells hb h.cell, h.recs.below hb⟩

theorem after (l : List (Int × List Int)) (hr : Rising l) (hn : l.length ≤ 1000000) (s : Int) (c : Nat) (v : Value) (w : World) (h : ChainIs w c v l) :
    Calls Try.prog 24 #[.pointer (some ⟨c, 0, none⟩), .int .u64 s] w fun e w' => e = .returned (.int .i64 (cntZ s l)) ∧ Below w.heap.size w w' := by
  have A := Lib.hid h
  have R := Lib.hid hr
  obtain ⟨h0, h1⟩ := h
  obtain ⟨p, cap, rfl, hcap, hbig, -, -⟩ := id h1
  have hc := lt_of_cell h0
  clear h1 hr hcap hbig
  go_enter Try.func24, Try.ntmps24
  go_wp2_with fail
  have B2 := ((Below.refl w.heap.size w).alloc (Nat.le_refl _) (Obj.cells #[Value.pointer (some ⟨c, 0, none⟩)] 24)).alloc (by simp) (Obj.cells #[Value.int IntKind.u64 s] 29)
  have A2 := A.out.below B2
  have G := Lib.hid B2
  have g0 : ((w.alloc (Obj.cells #[Value.pointer (some ⟨c, 0, none⟩)] 24)).alloc (Obj.cells #[Value.int IntKind.u64 s] 29)).cell? ⟨w.heap.size, 0, none⟩ = some (.pointer (some ⟨c, 0, none⟩)) := by go_simp
  have g1 : ((w.alloc (Obj.cells #[Value.pointer (some ⟨c, 0, none⟩)] 24)).alloc (Obj.cells #[Value.int IntKind.u64 s] 29)).cell? ⟨w.heap.size + 1, 0, none⟩ = some (.int .u64 s) := by go_simp
  refine (search l R.out hn s _ _ c _ _ g0 g1 A2.cell A2.recs).mono ?_
  clear B2 A2 g0 g1
  rintro e w' ⟨rfl, hd⟩
  have D := Lib.hid hd
  clear hd
  go_wp2_with fail
  go_ret
  exact ⟨rfl, G.out.trans (D.out.below.mono G.out.size)⟩

theorem len (l : List (Int × List Int)) (hn : l.length ≤ 1000000) (c : Nat) (v : Value) (w : World) (h : ChainIs w c v l) :
    Calls Try.prog 23 #[.pointer (some ⟨c, 0, none⟩)] w fun e w' => e = .returned (.int .i64 l.length) ∧ w = w' := by
  obtain ⟨h0, h1⟩ := h
  obtain ⟨p, cap, rfl, hcap, hbig, -, -⟩ := id h1
  clear h1 hcap hbig
  go_enter Try.func23, Try.ntmps23
  go_wp2_with fail
  go_ret
  exact ⟨rfl, rfl⟩

theorem len_nil (w : World) : Calls Try.prog 23 #[.pointer none] w fun e w' => e = .returned (.int .i64 0) ∧ w = w' := by
  go_enter Try.func23, Try.ntmps23
  go_wp2_with fail
  go_ret
  exact ⟨rfl, rfl⟩

def lastZ (l : List (Int × List Int)) : Int := match l.getLast? with | some r => r.1 | none => 0

theorem last (l : List (Int × List Int)) (hn : l.length ≤ 1000000) (c : Nat) (v : Value) (w : World) (h : ChainIs w c v l) :
    Calls Try.prog 22 #[.pointer (some ⟨c, 0, none⟩)] w fun e w' => e = .returned (.int .u64 (lastZ l)) ∧ Drawn w w' := by
  have A := Lib.hid h
  obtain ⟨h0, h1⟩ := h
  obtain ⟨p, cap, rfl, hcap, hbig, -, -⟩ := id h1
  clear hcap hbig
  by_cases hl : l.length = 0
  · have hz : ((l.length : Int) == 0) = true := by rw [beq_iff_eq]; omega
    clear h1
    go_enter Try.func22, Try.ntmps22
    go_wp2_with fail
    refine (len l hn c _ w A.out).mono ?_
    rintro e w' ⟨rfl, rfl⟩
    go_wp2_with fail
    go_ret
    have : l = [] := List.eq_nil_of_length_eq_zero hl
    subst this
    exact ⟨rfl, Drawn.refl _⟩
  · have hz : ((l.length : Int) == 0) = false := by rw [beq_eq_false_iff_ne]; omega
    obtain ⟨g, off, u, rfl, c0, c1, -⟩ := h1.elem (i := l.length - 1) (by omega)
    clear h1
    have hne : l ≠ [] := fun e => hl (by rw [e]; rfl)
    have E := Lib.hid (show lastZ l = l[l.length - 1].1 by unfold lastZ; rw [List.getLast?_eq_some_getLast hne, List.getLast_eq_getElem])
    go_enter Try.func22, Try.ntmps22
    go_wp2_with fail
    refine (len l hn c _ w A.out).mono ?_
    rintro e w' ⟨rfl, rfl⟩
    go_wp2_with fail
    go_quiet (fail)
    rename_i nq
    go_wp2_with fail
    go_ret
    exact ⟨ret_int E.out.symm, ⟨nq, rfl⟩⟩

end Go.Proofs.Ytpoophimfjfgkaa
