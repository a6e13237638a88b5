import Derived.Test.YtidaecdlpjfngaaVecC
import Derived.Test.YtidaecdlpjfngaaRecs
namespace Go.Proofs.Ytidaecdlpjfngaa
open Go.RowKit

/-- what is wrong with one op of a batch -/
def opBad (dim : Int) (r : Int × List Int) : Bool := decide (1099511627776 < r.1) || (decide (0 < r.2.length) && (!rightB r.2 || ((r.2.length : Int) != dim)))

theorem opBad_cases (dim : Int) (r : Int × List Int) :
    (opBad dim r = true ∧ decide (1099511627776 < r.1) = true) ∨
    (opBad dim r = false ∧ decide (1099511627776 < r.1) = false ∧ decide (0 < r.2.length) = false) ∨
    (opBad dim r = true ∧ decide (1099511627776 < r.1) = false ∧ decide (0 < r.2.length) = true ∧ rightB r.2 = false) ∨
    (opBad dim r = true ∧ decide (1099511627776 < r.1) = false ∧ decide (0 < r.2.length) = true ∧ rightB r.2 = true ∧ ((r.2.length : Int) != dim) = true) ∨
    (opBad dim r = false ∧ decide (1099511627776 < r.1) = false ∧ decide (0 < r.2.length) = true ∧ rightB r.2 = true ∧ ((r.2.length : Int) != dim) = false) := by
  unfold opBad
  cases decide (1099511627776 < r.1) <;> cases decide (0 < r.2.length) <;> cases rightB r.2 <;> cases ((r.2.length : Int) != dim) <;> simp

/-- the answer is this number, and nothing that was there has turned -/
def AnsInt (x : Int) (w : World) (e : Ending) (w' : World) : Prop := e = .returned (.int .i64 x) ∧ Below w.heap.size w w'

/-- what is said of one to sixteen ops, the dimension being right -/
def bodyZ (dim : Int) (l : List (Int × List Int)) : Int := if l.any (opBad dim) = true then 4 else if (l.map (·.1)).Nodup then 0 else 7

theorem bodyZ_bad {dim : Int} {l : List (Int × List Int)} {k : Nat} (hk : k < l.length) (h : opBad dim l[k] = true) : bodyZ dim l = 4 := by
  rw [bodyZ, if_pos (List.any_eq_true.2 ⟨_, List.getElem_mem hk, h⟩)]

theorem bodyZ_fine {dim : Int} {l : List (Int × List Int)} (h : ∀ j (hj : j < l.length), opBad dim l[j] = false) : bodyZ dim l = if (l.map (·.1)).Nodup then 0 else 7 := by
  rw [bodyZ, if_neg]
  rw [List.any_eq_true]
  rintro ⟨x, hx, hb⟩
  obtain ⟨i, hi, rfl⟩ := List.mem_iff_getElem.1 hx
  rw [h i hi] at hb
  cases hb

theorem twice_not {l : List (Int × List Int)} {i j : Nat} (hi : i < j) (hj : j < l.length) (h : l[i].1 = l[j].1) : ¬ (l.map (·.1)).Nodup := by
  intro hn
  have := (List.pairwise_iff_getElem.1 hn) i j (by simp; omega) (by simpa using hj) hi
  simp only [List.getElem_map] at this
  exact this h

theorem once_nodup {l : List (Int × List Int)} (h : ∀ i j (hi : i < j) (hj : j < l.length), l[i].1 ≠ l[j].1) : (l.map (·.1)).Nodup := by
  refine List.pairwise_iff_getElem.2 fun i j hi hj hij => ?_
  simp only [List.length_map] at hi hj
  simp only [List.getElem_map]
  exact h i j hij hj

def checkZ (dim : Int) (l : List (Int × List Int)) : Int :=
  if dim < 1 ∨ 8 < dim then 1 else if l.length = 0 then 2 else if 16 < l.length then 3 else bodyZ dim l

theorem refCheck_arg (dim : Int) (l : List (Int × List Int)) (v : Value) (w : World) (_h : Recs w v l) (hd : dim < 1 ∨ 8 < dim) :
    Calls Try.prog 24 #[.int .i64 dim, v] w fun e w' => e = .returned (.int .i64 1) ∧ Below w.heap.size w w' := by
  clear _h
  by_cases h1 : dim < 1
  · clear hd
    go_enter Try.func24, Try.ntmps24
    go_wp2_with fail
    go_ret
    exact ⟨rfl, Below.refl _ _⟩
  · have h2 : 8 < dim := by omega
    clear hd
    go_enter Try.func24, Try.ntmps24
    go_wp2_with fail
    go_ret
    exact ⟨rfl, Below.refl _ _⟩

theorem refCheck_len (dim : Int) (l : List (Int × List Int)) (v : Value) (w : World) (h : Recs w v l) (h1 : 1 ≤ dim) (h2 : dim ≤ 8) (hl : l.length = 0 ∨ 16 < l.length) :
    Calls Try.prog 24 #[.int .i64 dim, v] w fun e w' => e = .returned (.int .i64 (if l.length = 0 then 2 else 3)) ∧ Below w.heap.size w w' := by
  obtain ⟨p, cap, rfl, hcap, hbig, -, -⟩ := id h
  clear h
  by_cases h0 : l.length = 0
  · clear hl
    have L : (l.length : Int) < 1 := by omega
    rw [if_pos h0]
    clear h0
    go_enter Try.func24, Try.ntmps24
    go_wp2_with fail
    go_ret
    exact ⟨rfl, Below.refl _ _⟩
  · have L : 16 < (l.length : Int) := by omega
    rw [if_neg h0]
    clear hl h0
    go_enter Try.func24, Try.ntmps24
    go_wp2_with fail
    go_ret
    exact ⟨rfl, Below.refl _ _⟩

theorem refCheck_body (dim : Int) (l : List (Int × List Int)) (v : Value) (w : World) (h : Recs w v l) (h1 : 1 ≤ dim) (h2 : dim ≤ 8) (hl1 : 1 ≤ l.length) (hl2 : l.length ≤ 16) :
    Calls Try.prog 24 #[.int .i64 dim, v] w (AnsInt (bodyZ dim l) w) := by
  obtain ⟨p, cap, rfl, hcap, hbig, -, -⟩ := id h
  have H := Lib.hid h
  have e1 : decide (dim < 1) = false := by simp; omega
  have e2 : decide (8 < dim) = false := by simp; omega
  have e3 : decide ((l.length : Int) < 1) = false := by simp; omega
  have e4 : decide (16 < (l.length : Int)) = false := by simp; omega
  clear h
  go_enter Try.func24, Try.ntmps24
  go_wp2_with fail
  go_loopg [25] l.length (fun q i wr => ∃ k : Nat, q = l.length - k ∧ k ≤ l.length ∧ i = .int .i64 k ∧ (∀ j (hj : j < l.length), j < k → opBad dim l[j] = false) ∧ Below w.heap.size w wr)
  case atStart => exact ⟨0, rfl, by omega, rfl, by omega, Below.refl _ _⟩
  case round =>
    obtain ⟨k, rfl, hk, rfl, hall, hb⟩ := hrel
    by_cases hlt : k < l.length
    · obtain ⟨b, off, u, rfl, c0, c1, hu⟩ := (H.out.below hb).elem hlt
      have A := Lib.hid (And.intro hall hb)
      have hsz := hb.size
      obtain ⟨up, ucap, rfl, -, -, -, -⟩ := id hu.slice
      have U := Lib.hid (hu.below ((Below.refl wr.heap.size wr).alloc (Nat.le_refl _) (Obj.cells #[Value.int IntKind.u64 l[k].fst, Value.slice up l[k].snd.length ucap] 51)))
      have F := Lib.hid (show Below w.heap.size w (wr.alloc (Obj.cells #[Value.int IntKind.u64 l[k].fst, Value.slice up l[k].snd.length ucap] 51)) from hb.alloc hsz _)
      clear hall hb hu
      rcases opBad_cases dim l[k] with ⟨c, d1⟩ | ⟨c, d1, d2⟩ | ⟨c, d1, d2, d3⟩ | ⟨c, d1, d2, d3, d4⟩ | ⟨c, d1, d2, d3, d4⟩
      · have C := Lib.hid c
        clear c
        go_wp2_with fail
        go_ret
        exact ⟨ret_int (bodyZ_bad hlt C.out).symm, F.out⟩
      · have C := Lib.hid c
        clear c
        go_wp2_with fail
        go_roundg (l.length - (k + 1))
        case measure => omega
        case rel => exact ⟨k + 1, rfl, by omega, by go_num, fun j hj hjk => by
          by_cases e : j = k
          · subst e; exact C.out
          · exact A.out.1 j hj (by omega), F.out⟩
      · have C := Lib.hid c
        clear c
        have R := refRight l[k].2 _ _ U.out
        rw [d3] at R
        clear d3
        have RR := Lib.hid R
        clear R
        go_wp2_with (go_at_call 19; refine RR.out.mono ?_; rintro e w' ⟨rfl, rfl⟩)
        go_ret
        exact ⟨ret_int (bodyZ_bad hlt C.out).symm, F.out⟩
      · have C := Lib.hid c
        clear c
        have R := refRight l[k].2 _ _ U.out
        rw [d3] at R
        clear d3
        have RR := Lib.hid R
        clear R
        go_wp2_with (go_at_call 19; refine RR.out.mono ?_; rintro e w' ⟨rfl, rfl⟩)
        go_ret
        exact ⟨ret_int (bodyZ_bad hlt C.out).symm, F.out⟩
      · have C := Lib.hid c
        clear c
        have R := refRight l[k].2 _ _ U.out
        rw [d3] at R
        clear d3
        have RR := Lib.hid R
        clear R
        go_wp2_with (go_at_call 19; refine RR.out.mono ?_; rintro e w' ⟨rfl, rfl⟩)
        go_roundg (l.length - (k + 1))
        case measure => omega
        case rel => exact ⟨k + 1, rfl, by omega, by go_num, fun j hj hjk => by
          by_cases e : j = k
          · subst e; exact C.out
          · exact A.out.1 j hj (by omega), F.out⟩
    · obtain rfl : k = l.length := by omega
      have fine := Lib.hid (fun j (hj : j < l.length) => hall j hj hj)
      have B := Lib.hid hb
      have hszo := hb.size
      clear hall hb
      obtain ⟨wo, rfl⟩ : ∃ wo : World, wo = wr := ⟨_, rfl⟩
      go_wp2_with fail
      go_loopg [54] l.length (fun q i wr => ∃ k : Nat, q = l.length - k ∧ k ≤ l.length ∧ i = .int .i64 k ∧ (∀ i j (hi : i < j) (hj : j < l.length), j < k → l[i].1 ≠ l[j].1) ∧ Below w.heap.size w wr)
      case atStart => exact ⟨0, rfl, by omega, rfl, by omega, B.out⟩
      case round =>
        obtain ⟨k, rfl, hk, rfl, hall, hb⟩ := hrel
        by_cases hlt : k < l.length
        · obtain ⟨b, off, u, rfl, c0, c1, hu⟩ := (H.out.below hb).elem hlt
          have A := Lib.hid hall
          have BB := Lib.hid hb
          have hsz := hb.size
          obtain ⟨up, ucap, rfl, -, -, -, -⟩ := id hu.slice
          clear hall hb hu
          obtain ⟨w1, rfl⟩ : ∃ w1 : World, w1 = wr := ⟨_, rfl⟩
          have hw1 := hsz
          have cI := below_cells (w := w1.alloc (Obj.cells #[Value.int IntKind.u64 l[k].fst, Value.slice up l[k].snd.length ucap] 51)) (w' := w1.alloc (Obj.cells #[Value.int IntKind.u64 l[k].fst, Value.slice up l[k].snd.length ucap] 51)) (Below.refl _ _) (a := ⟨w1.heap.size, 0, none⟩) (v := .int .u64 l[k].1) (by go_simp)
          have C := Lib.hid cI
          have BW := Lib.hid (show Below w.heap.size w (w1.alloc (Obj.cells #[Value.int IntKind.u64 l[k].fst, Value.slice up l[k].snd.length ucap] 51)) from BB.out.alloc hsz _)
          clear cI
          go_wp2_with fail
          go_loopg [63] k (fun q i wq => ∃ m : Nat, q = k - m ∧ m ≤ k ∧ i = .int .i64 m ∧ (∀ j (hj : j < l.length), j < m → l[j].1 ≠ l[k].1) ∧ wq.cell? ⟨w1.heap.size, 0, none⟩ = some (.int .u64 l[k].1) ∧ Below w.heap.size w wq)
          case atStart => exact ⟨0, rfl, by omega, rfl, by omega, C.out, BW.out⟩
          case round =>
            obtain ⟨m, rfl, hm, rfl, hno, hbox, hbq⟩ := hrel
            by_cases hlm : m < k
            · obtain ⟨b', off', u', hp, c0', c1', hu'⟩ := (H.out.below hbq).elem (show m < l.length by omega)
              simp only [Option.some.injEq, Addr.mk.injEq, and_true] at hp
              obtain ⟨rfl, rfl⟩ := hp
              obtain ⟨up', ucap', rfl, -, -, -, -⟩ := id hu'.slice
              have X := Lib.hid (And.intro hno hbq)
              have hszq := hbq.size
              have hbl := lt_of_cell hbox
              have hbox' : (wr.alloc (Obj.cells #[Value.int IntKind.u64 l[m].fst, Value.slice up' l[m].snd.length ucap'] 51)).cell? ⟨w1.heap.size, 0, none⟩ = some (.int .u64 l[k].1) := by
                rw [World.cell?_alloc_lt _ _ _ hbl]; exact hbox
              have BX := Lib.hid hbox'
              simp only at hbl
              clear hno hbq hu' hbox'
              by_cases he : l[m].1 = l[k].1
              · have hb1 : (l[m].1 == l[k].1) = true := by simp [he]
                have E := Lib.hid he
                clear he
                go_wp2_with fail
                go_ret
                exact ⟨ret_int (by rw [bodyZ_fine fine.out, if_neg (twice_not hlm hlt E.out)]), X.out.2.alloc hszq _⟩
              · have hb1 : (l[m].1 == l[k].1) = false := by simp [he]
                have E := Lib.hid he
                clear he
                go_wp2_with fail
                go_roundg (k - (m + 1))
                case measure => omega
                case rel => exact ⟨m + 1, rfl, by omega, by go_num, fun j hj hjm => by
                  by_cases e : j = m
                  · subst e; exact E.out
                  · exact X.out.1 j hj (by omega), BX.out, X.out.2.alloc hszq _⟩
            · obtain rfl : m = k := by omega
              have X := Lib.hid (And.intro hno hbq)
              clear hno hbq hbox
              go_wp2_with fail
              go_roundg (l.length - (m + 1))
              case measure => omega
              case rel => exact ⟨m + 1, rfl, by omega, by go_num, fun i j hi hj hjk => by
                by_cases e : j = m
                · subst e; exact X.out.1 i (by omega) hi
                · exact A.out i j hi hj (by omega), X.out.2⟩
        · obtain rfl : k = l.length := by omega
          have N := Lib.hid (once_nodup fun i j hi hj => hall i j hi hj hj)
          have BB := Lib.hid hb
          clear hall hb
          go_wp2_with fail
          go_ret
          exact ⟨ret_int (by rw [bodyZ_fine fine.out, if_pos N.out]), BB.out⟩

end Go.Proofs.Ytidaecdlpjfngaa
